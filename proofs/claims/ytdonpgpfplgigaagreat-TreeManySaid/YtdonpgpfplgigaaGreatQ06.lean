/- TreeMany: a part of its proof; conditions: its statement's. -/
import Derived.Test.YtdonpgpfplgigaaGreatQ05
import Derived.Shelf.Spec.SlicesInsertGrow
import Derived.Deep.RegionLaw
import Derived.Lib.AppendZerosOnto
import Derived.Laws.NewBlocks
import Derived.Test.YtdonpgpfplgigaaGreatQ02
set_option linter.defProp false
namespace Go.Proofs.YtdonpgpfplgigaaGreat.Am
open Go Go.Lib
def eS:=@Tryz.underlying89
def zQ:=@Tryz.func52
def Lq:=@Tryz.func116
def Lr:=@Tryz.func32
variable {ts:Array TypeId} {X Y:aG} {C:gN} {code:Code} {d:sD} {ε ah:bk} {A:bk->aG} {pg:bk->Int->List Nat} {lv dd:bk->Prop} {fn:Func} {P':Int->List Nat} {lo:Ky} {now:List (Int×List Nat)} {cs cs':List (List Nat)} {E:List (Nat×V)} {S:List aG} {es:List En} {ks:List fV} {Ch:List fV->Nat->Prop} {b ps c R M M' data was:List Nat} {us args caps:List V} {a l k i x n N B id off kd link extra j sC g q r aQ L K tx bj lk:Nat} {F:Nat->List (List Nat)->Prop} {ox oy:Operand} {hi:Option Ky} {P:Program} {α:Type} {t te t' e:TypeId} {rv y u z bv cv w kv:V}
set_option maxHeartbeats 4000000 in
set_option maxRecDepth 100000 in
theorem Ta (b off n c i vb I m vc:Nat)(cs vs:List Value)(w:World)(hi:i<n)(hm:0<m)(qR:n+m<=c)(y9:n+m<=9223372036854775807)(Ls:vb≠b)(gn:cs.length=n)(Gv:vs.length=m)
 (kU:∀j v,cs[j]?=some v->w.cell? ⟨b,off+j,none⟩=some v)(gD:∀j,j<n+m->(w.cell? ⟨b,off+j,none⟩).isSome=true)(vY:∀j,j<n+m->w.frozen? ⟨b,off+j,none⟩=false)
 (X1:∀j v,vs[j]?=some v->w.cell? ⟨vb,I+j,none⟩=some v)(Ot:∀v∈cs,v.oneCell'=true)(Ou:∀v∈vs,v.oneCell'=true)
 (tA tB:TypeId)(kA kB:Nat)(hsa:w.shape? vb=some (tA,kA))(XK:w.shape? b=some (tB,kB))(hkB:kB≠0)(hfa:w.frozen? ⟨vb,I,none⟩=false)(hfe:w.frozen? ⟨vb,kA,none⟩=false):
  Calls Tryz.prog 52 #[.slice (some ⟨b,off,none⟩) n c,.int .i64 i,.slice (some ⟨vb,I,none⟩) m vc] w λe w' =>
   e=.returned (.slice (some ⟨b,off,none⟩) (n+m) c)/\w'=(w.drew.setCells b (off+(i+m)) (cs.drop i)).setCells b (off+i) vs:=by
 have DW:¬ ((m:Int)=0):=by omega
 have KQ:¬ ((i:Int)=(n:Int)):=by omega
 have fY:(Tryz.prog.info? 29).map (·.size)=some 1:=by kernel_rfl
 have hov:∀lb cb,(callFunc 128 #[.slice (some ⟨vb,I,none⟩) m vc,.slice (some ⟨b,off+(i+m),none⟩) lb cb]).run Tryz.prog w=.ok (.value (.bool false)) w:=λlb cb=>by
  rw[run_callFunc_extern Tryz.func128 (by kernel_rfl) (by kernel_rfl) (by kernel_rfl) (e:=Extern.SlicesOverlaps.overlaps #[98,98] #[4]) (by kernel_rfl),
   Lib.run_overlaps_apart w 98 4 29 aO 1 (λw=>Tryz.sizeOf29 w) ⟨vb,I,none⟩ ⟨b,off+(i+m),none⟩ m vc lb cb Ls tA tB kA kB hsa XK hkB hfa hfe]
  rfl
 have xk:(cs.drop i).length=n-i:=by rw[fD,gn]
 have J_:IntKind.i64.wrap ((i:Int)+(m:Int))=(i:Int)+(m:Int):=by rw[IntKind.wrap_i64];omega
 have lD:(0:Int)<=(i:Int)+(m:Int):=by omega
 have sR:i<=n:=by omega
 have htn:((i:Int)+(m:Int)).toNat=i+m:=by omega
 have ob:¬ (c=i+m):=by omega
 have Np:(i:Int)<=(n:Int)+(m:Int):=by omega
 have hb4:¬ (c=i):=by omega
 have abv:∀ty dc sc,(Builtin.copy_ #[98,98] ty #[.slice (some ⟨b,off+(i+m),none⟩) (n+m-(i+m)) dc,.slice (some ⟨b,off+i,none⟩) (n+m-i) sc]).run Tryz.prog w.drew=.ok (goInt (cs.drop i).length) (w.drew.setCells b (off+(i+m)) (cs.drop i)):=λty dc sc =>
  run_copy_cells w.drew _ _ ty 29 b (off+(i+m)) (n+m-(i+m)) dc ⟨b,off+i,none⟩ (n+m-i) sc (cs.drop i) aO fY (by rw[xk];simp only[Da];split<;>omega)
   (λj v hj=>by rw[Addr.add_lit,oL];exact kU (i+j) v (by rwa [fB] at hj))
   (λj hj=>by rw[oL];exact gD _ (by omega)) (λj hj=>by rw[oL];exact vY _ (by omega)) (λv hv=>Ot v (jd hv))
 obtain⟨W1,Bf⟩:∃W1,W1=w.drew.setCells b (off+(i+m)) (cs.drop i):=⟨_,U⟩;have AO:∀k,k<n+m->(W1.cell? ⟨b,off+k,none⟩).isSome=true:=λk hk=>by
  rw[Bf];exact isSome_setCells b _ _ _ (λj hj=>by rw[oL];exact gD _ (by omega)) _ (gD k hk)
 have ad5:∀(W:World),(∀x,W.cell? x=W1.cell? x)->(∀x,W.frozen? x=W1.frozen? x)->∀ty dc,(Builtin.copy_ #[98,98] ty #[.slice (some ⟨b,off+i,none⟩) (n+m-i) dc,.slice (some ⟨vb,I,none⟩) m vc]).run Tryz.prog W=.ok (goInt vs.length) (W.setCells b (off+i) vs):=λW I4 Tb ty dc =>
  run_copy_cells W _ _ ty 29 b (off+i) (n+m-i) dc ⟨vb,I,none⟩ m vc vs aO fY (by rw[Gv];simp only[Da];split<;>omega)
   (λj v hj=>by
    rw[Addr.add_lit,I4,Bf,World.cell?_setCells_out b _ _ _ _ (λh _=>absurd h Ls)];exact X1 j v hj)
   (λj hj=>by rw[I4,oL];exact AO _ (by omega)) (λj hj=>by rw[Tb,Bf,World.frozen?_setCells,oL];exact vY _ (by omega)) Ou
 rw[<-Bf] at abv
 go_enter zQ,Tryz.ntmps52
 go_wp2_with (simp only[hov])
 go_region_law (refine step_copy_runI U _ _ 98 98 U _ _ (by simp[Act.eval,Act.put]) (by simp[Act.eval,Act.put]) (abv _ _ _) ?_)
 go_wp2_with (at_builtin;refine wpList_copy_runI _ U _ _ 98 98 U _ _ U U (ad5 _ (λ_=>U) (λ_=>U) _ _) ?_)
 go_ret
 first|exact⟨rfl,rfl⟩|exact⟨rfl,by rw[Bf]⟩
end Go.Proofs.YtdonpgpfplgigaaGreat.Am
namespace Go.Proofs.YtdonpgpfplgigaaGreat.Am
open Go Go.Lib
variable {ts:Array TypeId} {X Y:aG} {C:gN} {code:Code} {d:sD} {ε ah:bk} {A:bk->aG} {pg:bk->Int->List Nat} {lv dd:bk->Prop} {fn:Func} {P':Int->List Nat} {lo:Ky} {now:List (Int×List Nat)} {cs cs':List (List Nat)} {E:List (Nat×V)} {S:List aG} {es:List En} {ks:List fV} {Ch:List fV->Nat->Prop} {b ps c R M M' data was:List Nat} {us args caps:List V} {a l k i x n N B id off kd link extra j sC g q r aQ L K tx bj lk:Nat} {F:Nat->List (List Nat)->Prop} {ox oy:Operand} {hi:Option Ky} {P:Program} {α:Type} {t te t' e:TypeId} {rv y u z bv cv w kv:V}
set_option maxHeartbeats 4000000 in
set_option maxRecDepth 100000 in
set_option maxHeartbeats 1000000 in
theorem VY (b off n c i vb Qk m vc:Nat)(cs vs:List Value)(w:World)(hi:i<n)(hm:0<m)(hnc:n<=c)(qR:c<n+m)(KV:(n+m)*24<=140737488355328)(gn:cs.length=n)(Gv:vs.length=m)
 (kU:∀j v,cs[j]?=some v->w.cell? ⟨b,off+j,none⟩=some v)
 (X1:∀j v,vs[j]?=some v->w.cell? ⟨vb,Qk+j,none⟩=some v)(Ot:∀v∈cs,v.oneCell'=true)(Ou:∀v∈vs,v.oneCell'=true):
  Calls Tryz.prog 52 #[.slice (some ⟨b,off,none⟩) n c,.int .i64 i,.slice (some ⟨vb,Qk,none⟩) m vc] w λe w' =>
   ∃G I,n+m<=G/\e=.returned (.slice (some ⟨w.heap.size,0,none⟩) (n+m) G)/\I.size=G /\
   w'=(((w.drew.alloc (.cells I 29)).setCells w.heap.size i vs).drew).setCells w.heap.size (i+m) (cs.drop i)/\∀j v,cs[j]?=some v->j<i->I[j]?=some v:=by
 have DW:¬ ((m:Int)=0):=by omega
 have KQ:¬ ((i:Int)=(n:Int)):=by omega
 have hz3:(c:Int)<(n:Int)+(m:Int):=by omega
 obtain⟨i0,Gw,yL,Xd,hzb⟩:∃i0,Tryz.prog.info? 29=some i0/\i0.zero=some (.slice none 0 0)/\i0.size=1/\i0.bytes=24:=by
  have h:(Tryz.prog.info? 29).map (λi=>(i.zero,i.size,i.bytes))=some (some (.slice none 0 0),1,24):=by kernel_rfl
  cases h2:Tryz.prog.info? 29 with
  |none=>rw[h2] at h;cases h
  |some i0 =>
   rw[h2] at h;simp only[gO,aA,bS] at h;exact⟨i0,U,h⟩
 have fY:(Tryz.prog.info? 29).map (·.size)=some 1:=by rw[Gw];simp[Xd]
 have xC:b<w.heap.size:=block_lt_of_cell (kU 0 _ (aF (by omega)));have hvw:vb<w.heap.size:=block_lt_of_cell (X1 0 _ (aF (by omega)));have sW:(n:Int)+(m:Int)-(i:Int)=((n+m-i:Nat):Int):=by omega
 have Xi:i+(n+m-i)=n+m:=by omega
 have hold:(Builtin.firstCells i0.size i (.slice (some ⟨b,off,none⟩) i c)).run Tryz.prog w.drew=.ok (cs.take i).toArray w.drew:=by
  rw[Xd];exact run_firstCells_some w.drew 1 i ⟨b,off,none⟩ i c (cs.take i) (by rw[cz];omega) (λj v hj=>by
   rw[Addr.add_lit];rw[hO] at hj;split at hj
   .exact kU j v hj
   .cases hj)
 have X2:∀ty,(Builtin.append_ #[98,3] ty #[.slice (some ⟨b,off,none⟩) i c,.int .i64 ((n:Int)+(m:Int)-(i:Int))]).run Tryz.prog w =
   .ok (.slice (some ⟨w.heap.size,0,none⟩) (n+m) (grownCap w (n+m) c 29)) (w.drew.alloc (.cells ((cs.take i).toArray++Builtin.zeroCells (Value.slice none 0 0).cells (n+m-i)++Builtin.zeroCells (Value.slice none 0 0).cells (grownCap w (n+m) c 29-(n+m))) 29)):=λty=>by
  have h:=Lib.run_append_grow_zeros w 98 3 ty 29 i0 _ .i64 .i64 aO b9 Gw yL (some ⟨b,off,none⟩) i c (cs.take i) hold (n+m-i) (by omega) (by omega) (by omega) (by omega) (by rw[hzb];omega) (by rw[hzb,Xi];exact growslice_fits qR KV);rw[Xi] at h;rw[sW];exact h
 have hGn:n+m<=grownCap w (n+m) c 29:=grownCap_ge w _ _ _;have ad6:grownCap w (n+m) c 29<=9223372036854775807:=by
  have:=grownCap_le_maxLen w (n+m) c 29 (by unfold maxLen;omega);unfold maxLen at this;omega
 obtain⟨G,hG⟩:∃G,G=grownCap w (n+m) c 29:=⟨_,U⟩;obtain⟨I,Ql⟩:∃I:Array Value,I=(cs.take i).toArray++Builtin.zeroCells (Value.slice none 0 0).cells (n+m-i)++Builtin.zeroCells (Value.slice none 0 0).cells (G-(n+m)):=⟨_,U⟩;rw[<-hG] at X2 hGn ad6;rw[<-Ql] at X2;have hRs:I.size=G:=by
  rw[Ql];simp[Builtin.zeroCells,Value.cells];omega
 have Lt:n+m<=I.size:=by omega
 have hRt:∀j v,cs[j]?=some v->j<i->I[j]?=some v:=λj v h hj=>by
  have hl:j<(cs.take i).length:=by rw[cz];omega
  rw[Ql,Array.append_assoc,Array.getElem?_append_left (by simpa using hl),qa,G1 hj,h]
 obtain⟨W1,Bf⟩:∃W1,W1=w.drew.alloc (.cells I 29):=⟨_,U⟩;rw[<-Bf] at X2;have hN:∀j,j<n+m->(W1.cell? ⟨w.heap.size,j,none⟩).isSome=true:=λj hj=>by
  rw[Bf,World.cell?_alloc_at (w:=w.drew) I _ w.heap.size j U,CQ (by omega)];rfl
 have hNf:∀j,W1.frozen? ⟨w.heap.size,j,none⟩=false:=λj=>by rw[Bf];exact World.frozen?_alloc_at (w:=w.drew) I _ w.heap.size j U
 have hOb:∀j v,w.cell? ⟨b,j,none⟩=some v->W1.cell? ⟨b,j,none⟩=some v:=λj v h=>by rw[Bf,World.cell?_alloc_past (w:=w.drew) _ b j xC];exact h
 have hOv:∀j v,w.cell? ⟨vb,j,none⟩=some v->W1.cell? ⟨vb,j,none⟩=some v:=λj v h=>by rw[Bf,World.cell?_alloc_past (w:=w.drew) _ vb j hvw];exact h
 have ad7:∀(W:World),(∀x,W.cell? x=W1.cell? x)->(∀x,W.frozen? x=W1.frozen? x)->∀ty dc,(Builtin.copy_ #[98,98] ty #[.slice (some ⟨w.heap.size,i,none⟩) (n+m-i) dc,.slice (some ⟨vb,Qk,none⟩) m vc]).run Tryz.prog W=.ok (goInt vs.length) (W.setCells w.heap.size i vs):=λW I4 Tb ty dc =>
  run_copy_cells W _ _ ty 29 w.heap.size i (n+m-i) dc ⟨vb,Qk,none⟩ m vc vs aO fY (by rw[Gv];simp only[Da];split<;>omega)
   (λj v hj=>by rw[Addr.add_lit,I4];exact hOv _ v (X1 j v hj))
   (λj hj=>by rw[I4];exact hN _ (by omega)) (λj hj=>by rw[Tb];exact hNf _) Ou
 have hGi:¬ (G=i):=by omega
 have afw:¬ (G=i+m):=by omega
 have xD:¬ (c=i):=by omega
 have hbN:b≠w.heap.size:=by omega
 have xk:(cs.drop i).length=n-i:=by rw[fD,gn]
 have abw:∀(W:World),(∀x,W.cell? x=(W1.setCells w.heap.size i vs).cell? x)->(∀x,W.frozen? x=(W1.setCells w.heap.size i vs).frozen? x)->∀ty dc sc,(Builtin.copy_ #[98,98] ty #[.slice (some ⟨w.heap.size,i+m,none⟩) (n+m-(i+m)) dc,.slice (some ⟨b,off+i,none⟩) (n-i) sc]).run Tryz.prog W=.ok (goInt (cs.drop i).length) (W.setCells w.heap.size (i+m) (cs.drop i)):=λW I4 Tb ty dc sc =>
  run_copy_cells W _ _ ty 29 w.heap.size (i+m) (n+m-(i+m)) dc ⟨b,off+i,none⟩ (n-i) sc (cs.drop i) aO fY (by rw[xk];simp only[Da];split<;>omega)
   (λj v hj=>by
    rw[Addr.add_lit,I4,World.cell?_setCells_out _ _ _ _ _ (λh _=>absurd h hbN),oL];exact hOb _ v (kU (i+j) v (by rwa [fB] at hj)))
   (λj hj=>by rw[I4];exact isSome_setCells _ _ _ _ (λt ht=>hN _ (by omega)) _ (hN _ (by omega)))
   (λj hj=>by rw[Tb,World.frozen?_setCells];exact hNf _) (λv hv=>Ot v (jd hv))
 subst Bf;have Gx:∀x,((w.alloc (.cells I 29)).drew).cell? x=(w.drew.alloc (.cells I 29)).cell? x:=λx=>U;have zR:∀x,((w.alloc (.cells I 29)).drew).frozen? x=(w.drew.alloc (.cells I 29)).frozen? x:=λx=>U;have hF1:∀x,(((w.alloc (.cells I 29)).drew.setCells w.heap.size i vs).drew).cell? x=((w.drew.alloc (.cells I 29)).setCells w.heap.size i vs).cell? x:=λx=>U;have hF2:∀x,(((w.alloc (.cells I 29)).drew.setCells w.heap.size i vs).drew).frozen? x=((w.drew.alloc (.cells I 29)).setCells w.heap.size i vs).frozen? x:=λx=>U;have J_:IntKind.i64.wrap ((i:Int)+(m:Int))=(i:Int)+(m:Int):=by rw[IntKind.wrap_i64];omega
 have lD:(0:Int)<=(i:Int)+(m:Int):=by omega
 have sR:i<=n:=by omega
 have htn:((i:Int)+(m:Int)).toNat=i+m:=by omega
 have Np:(i:Int)<=(n:Int):=by omega
 clear sW Xi hold Ql hG Lt;have mixed:Tryz.prog.follows .mixedOrders=true:=Ck;refine Calls.mono (R:=λe w'=>e=.returned (.slice (some ⟨w.heap.size,0,none⟩) (n+m) G)/\w'=(((w.alloc (.cells I 29)).drew.setCells w.heap.size i vs).drew).setCells w.heap.size (i+m) (cs.drop i)) ?_ (λe w' h=>⟨G,I,hGn,h.1,hRs,h.2,hRt⟩)
 go_enter zQ,Tryz.ntmps52
 go_wp2_with (first
  |(at_builtin;refine Lib.wpList_append_run _ rfl _ _ _ _ rfl _ _ rfl rfl _ _ (X2 _) ?_)
  |(at_builtin;refine wpList_copy_runI _ rfl _ _ 98 98 rfl _ _ rfl rfl (ad7 _ Gx zR _ _) ?_)
  |(at_builtin;refine wpList_copy_runI _ rfl _ _ 98 98 rfl _ _ rfl rfl (abw _ (λ_=>U) (λ_=>U) _ _ _) ?_))
 go_region_law_o (refine step_copy_runI U _ _ 98 98 U (.slice (some ⟨w.heap.size,i+m,none⟩) (n+m-(i+m)) (G-(i+m))) (.slice (some ⟨b,off+i,none⟩) (n-i) (c-i)) (by simp[Act.eval,Act.put]) (by simp[Act.eval,Act.put]) (abw _ hF1 hF2 3 (G-(i+m)) (c-i)) ?_)
 go_wp2
 go_ret
 exact⟨U,U⟩
end Go.Proofs.YtdonpgpfplgigaaGreat.Am
namespace Go.Proofs.YtdonpgpfplgigaaGreat.Am
open Go
variable {ts:Array TypeId} {X Y:aG} {C:gN} {code:Code} {d:sD} {ε ah:bk} {A:bk->aG} {pg:bk->Int->List Nat} {lv dd:bk->Prop} {fn:Func} {P':Int->List Nat} {lo:Ky} {now:List (Int×List Nat)} {cs cs':List (List Nat)} {E:List (Nat×V)} {S:List aG} {es:List En} {ks:List fV} {Ch:List fV->Nat->Prop} {b ps c R M M' data was:List Nat} {us args caps:List V} {a l k i x n N B id off kd link extra j sC g q r aQ L K tx bj lk:Nat} {F:Nat->List (List Nat)->Prop} {ox oy:Operand} {hi:Option Ky} {P:Program} {α:Type} {t te t' e:TypeId} {rv y u z bv cv w kv:V}
theorem VZ {b:Nat}{l m:List Nat}: cmpN (a::l) (b::m)=if a<b then -1 else if b<a then 1 else cmpN l m:=by
 show cond (Nat.blt a b) (.negSucc 0) (cond (Nat.blt b a) 1 (cmpN l m))=_;by_cases I:a<b
 .rw[gj.2 I,ag,ay I];rfl
 .have e1:Nat.blt a b=false:=by
   cases hq:Nat.blt a b with
   |true=>exact absurd (gj.1 hq) I
   |false=>rfl
  rw[e1,aS,ai I];by_cases h2:b<a
  .rw[gj.2 h2,ag,ay h2]
  .have e2:Nat.blt b a=false:=by
    cases hq:Nat.blt b a with
    |true=>exact absurd (gj.1 hq) h2
    |false=>rfl
   rw[e2,aS,ai h2]
theorem tU : ∀(a b:Ky),(cmpN a b<0↔a<b)/\(cmpN a b<=0↔a<=b):=by
 intro a;induction a with
 |nil =>
  intro b;cases b with
  |nil=>exact⟨⟨λh=>absurd h (by decide),λh=>absurd h (jQ _)⟩,⟨λ_=>nF _,λ_=>by decide⟩⟩
  |cons y b=>exact⟨⟨λ_=>vF _ _,λ_=>(show Int.negSucc 0<0 by decide)⟩,⟨λ_=>oM (vF _ _),λ_=>(show Int.negSucc 0<=0 by decide)⟩⟩
 |cons x a ih =>
  intro b;cases b with
  |nil =>
   have I:cmpN (x::a) []=1:=rfl;have h2:([]:Ky)<x::a:=vF _ _;rw[I];exact⟨⟨λh=>absurd h (by decide),λh=>by grind⟩,⟨λh=>absurd h (by decide),λh=>by grind⟩⟩
  |cons y b =>
   obtain⟨i1,i2⟩:=ih b;rw[VZ];by_cases I:x<y
   .rw[ay I];have:x::a<y::b:=List.cons_lt_cons_iff.2 (.inl I);exact⟨⟨λ_=>this,λ_=>by decide⟩,⟨λ_=>oM this,λ_=>by decide⟩⟩
   .rw[ai I];by_cases h2:y<x
    .rw[ay h2];have:y::b<x::a:=List.cons_lt_cons_iff.2 (.inl h2);exact⟨⟨λh=>absurd h (by decide),λh=>by grind⟩,⟨λh=>absurd h (by decide),λh=>by grind⟩⟩
    .rw[ai h2];have e:x=y:=by omega
     subst e;have h3:x::a<x::b↔a<b:=by
      rw[G3];exact⟨λh=>h.resolve_left (λq=>absurd q (C5 _)) |>.2,λh=>.inr ⟨U,h⟩⟩
     have h4:x::a<=x::b↔a<=b:=by
      rw[<-List.not_lt,<-List.not_lt];have:x::b<x::a↔b<a:=by
       rw[G3];exact⟨λh=>h.resolve_left (λq=>absurd q (C5 _)) |>.2,λh=>.inr ⟨U,h⟩⟩
      rw[this]
     exact⟨i1.trans h3.symm,i2.trans h4.symm⟩
structure Way (ks:List fV)(k:Ky)(i:Nat): Prop where
 lt:i<ks.length
 le:∀j x,ks[j]?=some x->1<=j->j<=i->x.key<=k
 gt:∀j x,ks[j]?=some x->i<j->k<x.key
theorem Way.bd {k:Ky}(h:Way ks k i)(hb:Bd lo hi k): Bd (loK lo ks i) (cQ hi ks i) k:=by
 refine⟨?_,λb I => ?_⟩
 .unfold loK;split
  .exact hb.1
  .have hk:ks[i]?=some (ks[i]'h.lt):=aF h.lt;rw[hk];exact h.le i _ hk (by omega) (aH _)
 .unfold cQ at I;cases hk:ks[i+1]? with
  |none=>rw[hk] at I;exact hb.2 b I
  |some x =>
   rw[hk] at I;obtain rfl:=bB I;exact h.gt (i+1) x hk (by omega)
abbrev uZ (n l:Nat)(bv cv:V): List V:=[.int .i64 (n:Int),.int .i64 (l:Int),bv,cv]
def aW (x n l:Nat)(b:List Nat)(cs:List (List Nat)): aG:=xs λbv:V=>xs λcv:V=>xs λus:List V=>star [pt x (.cells 4 (uZ n l bv cv) false),.cG bv b,roS 1 cv us,dn us cs]
def iT (l:Nat)(c:List Nat): Prop:=if l=0 then 1<=c.length/\1+c.getD 0 0<=c.length else 4<=c.length
section
variable {h:H} {P:Int->List Nat}
theorem aT : Sat h (aW x n l b cs::S)↔∃bv cv us,Sat h (pt x (.cells 4 (uZ n l bv cv) false)::.cG bv b::roS 1 cv us::dn us cs::S):=by
 simp[aW,j8,dx]
theorem Nv.cells (hN:Nv F P l lo hi cs es ps): ∀c∈cs,iT l c/\c.length<=225/\(1<=l->c.length<=100):=by
 intro c hc;cases l with
 |zero =>
  obtain⟨rfl,h2,rfl⟩:=hN;obtain⟨e,he,rfl⟩:=List.mem_map.1 hc;obtain⟨s1,s2,s3⟩:=h2.sz e he;refine⟨?_,?_,λh=>by omega⟩
  .show 1<=(eE e).length/\1+(eE e).getD 0 0<=(eE e).length;exact⟨by simp[eE],by simp[eE];omega⟩
  .simp[eE];omega
 |succ l =>
  obtain⟨ks,rfl,h2,rfl,rfl,h5⟩:=hN;obtain⟨i,hi⟩:=List.mem_iff_getElem?.1 hc;have I:=(List.getElem?_eq_some_iff.1 hi).1;rw[dI] at I;have hk:ks[i]?=some (ks[i]'I):=aF I;rw[gU hk] at hi;obtain rfl:=bB hi;have h4:=cO 4 (ks[i]'I).pg;have qu:=h2.len _ (aI hk);have hl:(ff (ks[i]'I).pg (ks[i]'I).key).length=4+(ks[i]'I).key.length:=by rw[ff,aN,h4]
  exact⟨by rw[iT,ai (by omega),hl];omega,by rw[hl];omega,λ_=>by rw[hl];omega⟩
end
def Sm (N:Nat)(ε ah:bk): Prop:=(∀m,pgA ah m=pgA ε m)/\(∀P:VP,uS N P->vw P ε->vw P ah)/\dH ah<=dH ε
theorem Sm.refl (N:Nat)(ε:bk): Sm N ε ε:=⟨λ_=>U,λ_ _ h=>h,aH _⟩
theorem Sm.trans {a b c:bk}(h:Sm N a b)(g:Sm N b c): Sm N a c:=⟨λm=>(g.1 m).trans (h.1 m),λP I hv=>g.2.1 P I (h.2.1 P I hv),c_ g.2.2 h.2.2⟩
structure my (told : cu) (N B : Nat) (rv : V) (A : bk → aG) (pg : bk → Int → List Nat) : Prop where
 iface : ∃ ty u f, rv = .iface ty u ∧ methV Tryz.prog ty "Read" = some f ∧ ∀ {h : H} {S : List aG} {ε : bk} {n : Int}, EI N B ε → 0 ≤ n → n < N → Sat h (A ε :: S) →
  Call ⟨Tryz.prog, told⟩ f [u, .int .i64 n] h fun v h' => ∃ w ah, v = .aV [w, .int .i64 0] ∧ EI N B ah ∧ Sm N ε ah ∧ Sat h' (aY w (pg ε n) :: A ah :: S)
 same : ∀ {ε ah : bk}, Sm N ε ah → ∀ m, pg ah m = pg ε m
structure I5 (told : cu) (N : Nat) (lv dd : bk → Prop) (sm : bk → bk → Prop) (rv : V) (A : bk → aG) (pg : bk → Int → List Nat) : Prop where
 iface : ∃ ty u f, rv = .iface ty u ∧ methV Tryz.prog ty "Read" = some f ∧ ∀ {h : H} {S : List aG} {ε : bk} {n : Int}, lv ε → 0 ≤ n → n < N → Sat h (A ε :: S) →
  Call ⟨Tryz.prog, told⟩ f [u, .int .i64 n] h fun v h' => (∃ ah, v = .aV [.aZ, .int .i64 9] ∧ dd ah ∧ Sat h' (A ah :: S)) ∨ ∃ w ah, v = .aV [w, .int .i64 0] ∧ lv ah ∧ sm ε ah ∧ Sat h' (aY w (pg ε n) :: A ah :: S)
 same : ∀ {ε ah : bk}, sm ε ah → ∀ m, pg ah m = pg ε m
 tr : ∀ {a b c : bk}, sm a b → sm b c → sm a c
abbrev noD : bk->Prop:=λ_=>False
theorem my.m {told:cu}(I:my told N B rv A pg): I5 told N (EI N B) noD (Sm N) rv A pg:=by
 obtain⟨ty,u,f,e,hm,hr⟩:=I.iface;exact⟨⟨ty,u,f,e,hm,λa b c s=>(hr a b c s).mono λ_ _ k=>.inr k⟩,I.same,Sm.trans⟩
section
variable {h:H} {v c:V} {cs:List V}
theorem Sat.Cv (s:Sat h S)(hk:getA S k=some (.arr 1 v cs))(hi:cs[i]?=some c)(hu:P.underlying t=some (.slice te))(I:bq P te=some 1)(e:indexAddrV P t v (.int .i64 (i:Int))=some (.ptr id off))(ha:isAggT P t'=some false): loadV P h t' (.ptr id off)=some c:=by
 grind[ki]
theorem qm {s d:TypeId}{x:Operand}{r:V}{h₁:H}(I:bE E x=some v)(h1:convV P h s d v=none)(h2:convB P h s d v=some (r,h₁)): opE P E h (.convert s d x)=some (r,h₁):=by
 grind[opE,lF]
end
def ji : List Nat:=[109,117,110,105,109,101,110,116]
theorem V0 {h:H}: buildSliceV Tryz.prog h 29 8 [(0,.int .u8 109),(1,.int .u8 117),(2,.int .u8 110),(3,.int .u8 105),(4,.int .u8 109),(5,.int .u8 101),(6,.int .u8 110),(7,.int .u8 116)]=some (.sl h.next 0 8 (.exact 8),newRow h (ofBytes ji)):=by
 simp only[buildSliceV,aP,fF,pJ,V.cells];rfl
theorem xE {h:H}{x y:Operand}{b:Nat}(I:0<b)(hw:a<9223372036854775808): binV P h .quo t x y (.int .i64 (a:Int)) (.int .i64 (b:Int))=some (.int .i64 ((a/b:Nat):Int)):=by
 simp only[binV,ikBeq,ag,intV];have:intBeq (b:Int) 0=false:=by rw[sK];simp;omega
 have h2:a/b<=a:=Ho a b;grind[ak]
section
variable {told:cu} {h:H} {v x:V} {l:List Nat} {sm:bk->bk->Prop}
theorem Lu (hT:W told)(s:Sat h S): Call ⟨Tryz.prog,told⟩ 99 [] h λr h'=>Sat h' (.cG r ji::S):=by
 refine Call.of_wp (hT.free _ U) Tryz.func99 U U (zK 6 U (au.any U U U (OpR.of (R:=λv h'=>v=.sl h.next 0 8 (.exact 8)/\h'=newRow h (ofBytes ji)) (iZ U V0) ⟨U,U⟩) ?_))
 rintro v I ⟨rfl,rfl⟩;have s1:Sat (newRow h (ofBytes ji)) (pt h.next (.cells 8 (ofBytes ji) false)::S):=s.new _
 generalize newRow h (ofBytes ji)=I at s1;generalize h.next=id at s1
 have hg:=s1.row (k:=0) U;have e1:convB Tryz.prog I 29 29 (.sl id 0 8 (.exact 8))=some (.sl id 0 8 (.exact 8),I.put id (some (.cells 8 (ofBytes ji) true))):=by
  simp only[convB,aP,Tryz.underlying5,hg];rfl
 have e0:convV Tryz.prog I 29 29 (.sl id 0 8 (.exact 8))=none:=by
  simp only[convV,aP]
 have s2:Sat (I.put id (some (.cells 8 (ofBytes ji) true))) (pt id (.cells 8 (ofBytes ji) true)::S):=s1.put (k:=0) U;have s3:Sat (I.put id (some (.cells 8 (ofBytes ji) true))) (.cG (.sl id 0 8 (.exact 8)) ji::S):=s2.freeze.eD (B:=.cG (.sl id 0 8 (.exact 8)) ji) λm r hm=>⟨by decide,.inr ⟨id,0,.exact 8,8,_,true,U,hm,U,by decide,U,by decide⟩⟩;refine au.any U U U (OpR.of (R:=λv h'=>v=.sl id 0 8 (.exact 8)/\h'=I.put id (some (.cells 8 (ofBytes ji) true))) (qm U e0 e1) ⟨U,U⟩) ?_;rintro v h2 ⟨rfl,rfl⟩;exact zk 2 U (WP.ret ⟨aa,_,U,s3⟩)
theorem I6 (hT:W told)(hx:View h x l)(hy:View h y c): Call ⟨Tryz.prog,told⟩ 118 [x,y] h λr h'=>r=.bool (decide (l=c))/\h'=h:=by
 refine Call.of_wp (hT.free _ U) Tryz.func118 U U (zK 7 U (zo U (cN U (D_ hx)) (zm U (zo U (cN U (D_ hy)) ?_))));by_cases I:l=c
 .skip;exact zB U Pv (decide_eq_true I) (zk 2 U (WP.ret ⟨aa,_,U,by rw[dZ I],U⟩))
 .skip;exact zC U Pv (decide_eq_false I) (zk 2 U (WP.ret ⟨aa,_,U,by rw[gh I],U⟩))
theorem Cw (I:W told)(h1:1<=n)(h2:n<=3000): Call ⟨Tryz.prog,told⟩ 90 [.int .i64 (n:Int)] h λr h'=>r=.int .i64 2/\h'=h:=by
 have e:(n+2999)/3000=1:=by omega
 refine Call.of_wp (I.free _ U) Tryz.func90 U U (zK 7 U (zb U (by exact aM ak) ?_));refine zb U (by exact dM ak) ?_;refine zo U (aq (r:=.int .i64 (((n+2999)/3000:Nat):Int)) U U (by rw[show(n:Int)+3000-1=((n+2999:Nat):Int) by omega];exact xE (by decide) (by omega))) ?_;rw[e];refine zb U (by exact aM ak) ?_;exact zk 2 U (WP.ret ⟨aa,_,U,U,U⟩)
theorem ZE (hT:W told)(hR:I5 told N lv dd sm rv A pg)(b_:lv ε)(hN:1<=N)(hp:fy (pg ε 0) 201 n extra [ji,R])(Lt:R.length=64)(s:Sat h (A ε::S)):
  Call ⟨Tryz.prog,told⟩ 163 [rv] h λv h'=>(∃ah,v=.aV [.aZ,.int .i64 0,.bool false,.int .i64 9]/\Sat h' (A ah::S)/\dd ah)\/∃u ah,v=.aV [u,.int .i64 (n:Int),.bool true,.int .i64 0]/\lv ah/\sm ε ah/\Sat h' (aY u R::A ah::S):=by
 obtain⟨ty,u,f,rfl,hm,jl⟩:=hR.iface;refine Call.of_wp (hT.free _ U) Tryz.func163 U U (zK 10 U (au.any U U U (OpR.invoke U U U hm U (jl b_ (by decide) (by omega) s)) ?_));rintro v h (⟨ah,rfl,hd,s⟩|⟨u,ah,rfl,uX,hs,s⟩)
 .skip;refine zk 10 U (zB U aE (by decide) ?_);exact zk 10 U (WP.ret ⟨aa,_,U,.inl ⟨ah,U,s,hd⟩⟩)
 refine zk 10 U (zC U aE (U) (zk 6 U (zc U (Qf hT s (bg _ _) hp) ?_)));rintro v h ⟨w,u0,u1,rfl,s⟩;obtain⟨X3,I,g1,g2⟩:=ki (P:=Tryz.prog) s (k:=0) (i:=0) (c:=u0) U U aO dQ;obtain⟨id1,abx,g3,g4⟩:=ki (P:=Tryz.prog) s (k:=0) (i:=1) (c:=u1) U U aO dQ;have xC:=(s.uO (j:=0) U).2.2;have m8:=nO (s.buf (k:=1) U).view;refine zk 8 U ?_;have s0:=s;refine WP.drawn [af,af,af,af,af,af,af,af,some (0,2),some (0,2),some (0,2),af,af,af,af,af,af,af,af,af,af,af] U (by kernel_rfl) (by kernel_rfl) ?_;refine zM U (aB.rR U U U U (aq U U aE) (by decide) ?_);refine zM U (zM U (zO U (aC U U U (s.fq (n:=2) (j:=0) U U (by decide) aO)) ?_));refine aB.rR U U U U (aq U U aE) (by decide) ?_;refine zO U (rP U U) (zM U (zM U (zO U (bM (r:=.ptr X3 I) U U g1) (zL U (s.Cv (k:=0) (i:=0) U U aO dQ g1 b8) (aB.any U U U U (OpR.call U U U U (Lu hT s)) ?_)))));intro mv h s;have s:=s.ae [1,1,1,1,1,0];have s1:=s;refine aB.any U U U U (OpR.call U U U U (I6 hT (s.buf (k:=1) U).view (s.aD (k:=5) U (bC _ _)))) ?_;rintro r h' ⟨rfl,rfl⟩;rw[show decide (ji=ji)=true from dZ U];refine zO U (eo U U) (zO U (rP U U) (zM U (zM U (zO U (bM (r:=.ptr id1 abx) U U g3) (zL U (s.Cv (k:=0) (i:=1) U U aO dQ g3 b8) (zO U (aC U U U (bA aP (s.aD (k:=2) U (bg _ _)))) ?_))))));rw[Lt];refine aB.rR U U U U (aq U U aE) (by decide) ?_;refine zO U (rP U U) ?_;refine aB.nil ⟨⟨aa,aa,aa,aa,aa,aa,aa,aa,λ_ _=>.inr ⟨U,⟨_,bZ U⟩,xC⟩,λ_ _=>.inr ⟨U,⟨_,bM (r:=.ptr X3 I) U U g1⟩,bp _ U⟩,gC (.inr ⟨U,⟨_,o_load U (s0.Cv (k:=0) (i:=0) U U aO dQ g1 b8)⟩,m8⟩) (.inr ⟨U,⟨_,o_load U (s1.Cv (k:=0) (i:=0) U U aO dQ g1 b8)⟩,m8⟩),yr 12⟩,?_⟩;refine zK 5 U ?_;have Rc:=hp.len;refine zc U (HT hT (s.ae [3]) (bg _ _) (by omega)) ?_;rintro v h ⟨s,(⟨hg,rfl⟩|⟨hg,rfl⟩)⟩
 .rw[show(pg ε 0).getD 12 0=201 from hp.kind,show dR (pg ε 0) 18 4=n from hp.link];have s:=s.ae [1,1,1,1,0];refine zk 16 U (zC U aE (by decide) ?_);exact zk 6 U (zo U (bM (r:=.ptr id1 abx) U U g3) (zl U (s.Cv (k:=0) (i:=1) U U aO dQ g3 b8) (zk 6 U (WP.ret ⟨aa,_,U,.inr ⟨_,ah,U,uX,hs,(((((s.ae [2,2]).del 5).del 4).del 3).del 2)⟩⟩))))
 .rw[hp.good] at hg;cases hg
theorem Gy (hT:W told)(hR:I5 told N lv dd sm rv A pg)(b_:lv ε)(hN:1<=N)(hp:fy (pg ε 0) 201 n extra [ji,R])(Lt:R.length=64)(s:Sat h (A ε::S)):
  Call ⟨Tryz.prog,told⟩ 89 [rv] h λv h'=>(∃ah,v=.aV [.aZ,.int .i64 0,.int .i64 9]/\Sat h' (A ah::S)/\dd ah)\/∃u ah,v=.aV [u,.int .i64 (n:Int),.int .i64 0]/\lv ah/\sm ε ah/\Sat h' (aY u R::A ah::S):=by
 refine Call.of_wp (hT.free _ U) Tryz.func89 U U (zK 9 U (zc U (ZE hT hR b_ hN hp Lt s) ?_));rintro v h (⟨ah,rfl,s,hd⟩|⟨u,ah,rfl,I,hs,s⟩)
 .skip;refine zk 11 U (WP.block (zK 3 U (zB U aE (by decide) ?_)));exact zk 10 U (WP.ret ⟨aa,_,U,.inl ⟨ah,U,s,hd⟩⟩)
 refine zk 9 U (zv (zw (WP.block (zg U (zm U (zh U (aq U U aE) (U) (za U (zv (zj U (zg U (zm U (zo U (eo U U) (za U (zv (zj U (WP.skip (zg U (zk 5 U (zv ?_)))))))))))))))))));refine WP.ret ⟨aa,_,U,?_⟩;exact .inr ⟨u,ah,U,I,hs,s⟩
theorem ZF (hT:W told)(hR:my told N B rv A pg)(I:EI N B ε)(hN:1<=N)(hp:fy (pg ε 0) 201 n extra [ji,R])(Lt:R.length=64)(s:Sat h (A ε::S)):
  Call ⟨Tryz.prog,told⟩ 89 [rv] h λv h'=>∃u ah,v=.aV [u,.int .i64 (n:Int),.int .i64 0]/\EI N B ah/\Sm N ε ah/\Sat h' (aY u R::A ah::S) :=
 (Gy hT hR.m I hN hp Lt s).mono λ_ _ k=>k.resolve_left λ⟨_,_,_,q⟩=>q
theorem zT (hT:W told)(hR:I5 told N lv dd sm rv A pg)(b_:lv ε)(hN:2<=N)(hp:fy (pg ε 1) kd link extra [M])(hM:M.length=375)(s:Sat h (A ε::S)):
  Call ⟨Tryz.prog,told⟩ 91 [rv,.int .i64 0] h λv h'=>(∃ah,v=.aV [.aZ,.aZ,.int .i64 9]/\Sat h' (A ah::S)/\dd ah)\/∃w u ah,v=.aV [w,u,.int .i64 0]/\lv ah/\sm ε ah/\Sat h' (aY u M::aY w (pg ε 1)::A ah::S):=by
 obtain⟨ty,u,f,rfl,hm,jl⟩:=hR.iface;refine Call.of_wp (hT.free _ U) Tryz.func91 U U (zK 11 U (zb U (by exact aM ak) ?_));refine au.any U U U (OpR.invoke U U U hm U (jl (n:=1) b_ (by decide) (by omega) s)) ?_;rintro v h (⟨ah,rfl,hd,s⟩|⟨w,ah,rfl,I,hs,s⟩)
 .skip;refine zk 9 U (zB U aE (by decide) ?_);exact zk 9 U (WP.ret ⟨aa,_,U,.inl ⟨ah,U,s,hd⟩⟩)
 refine zk 9 U (zC U aE (U) (zk 6 U (zc U (VO (i:=0) hT s (bg _ _) hp U) ?_)));rintro v h ⟨u,rfl,s⟩;refine zk 10 U (zC U aE (U) (zk 2 U (zo U (aC U U U (bA aP (s.aD (k:=0) U (bg _ _)))) ?_)));rw[hM];refine zC U aE (by decide) ?_;exact zk 12 U (WP.ret ⟨aa,_,U,.inr ⟨w,u,ah,U,I,hs,s⟩⟩)
theorem V1 (hT:W told)(hR:my told N B rv A pg)(I:EI N B ε)(hN:2<=N)(hp:fy (pg ε 1) kd link extra [M])(hM:M.length=375)(s:Sat h (A ε::S)):
  Call ⟨Tryz.prog,told⟩ 91 [rv,.int .i64 0] h λv h'=>∃w u ah,v=.aV [w,u,.int .i64 0]/\EI N B ah/\Sm N ε ah/\Sat h' (aY u M::aY w (pg ε 1)::A ah::S) :=
 (zT hT hR.m I hN hp hM s).mono λ_ _ k=>k.resolve_left λ⟨_,_,_,q⟩=>q
end
def bt (M:List Nat)(i:Nat): Bool:=(M.getD (i/8) 0).testBit (i%8)
def Gz (M:List Nat)(i:Nat): List Nat:=M.set (i/8) (Nat.lor (M.getD (i/8) 0) (2^(i%8)))
def I7 (M:List Nat)(i:Nat): List Nat:=M.set (i/8) (Nat.land (M.getD (i/8) 0) (255-2^(i%8)))
theorem Lv {b:Nat}(hi:i<M.length): (M.set i b).getD j 0=if i=j then b else M.getD j 0:=by
 grind
theorem X4 (hi:i/8<M.length): bt (Gz M i) j=if j=i then true else bt M j:=by
 unfold bt Gz;rw[Lv hi];by_cases h:i/8=j/8
 .rw[ay h,show Nat.lor (M.getD (i/8) 0) (2^(i%8))=(M.getD (i/8) 0) ||| (2^(i%8)) from rfl,Nat.testBit_or,Nat.testBit_two_pow,h];grind
 .grind
theorem X5 (hi:i/8<M.length): bt (I7 M i) j=if j=i then false else bt M j:=by
 unfold bt I7;rw[Lv hi];by_cases h:i/8=j/8
 .have e:255-2^(i%8)=2^8-(2^(i%8)+1):=by omega
  have I:2^(i%8)<2^8:=yu (by decide) (by omega);rw[ay h,show Nat.land (M.getD (i/8) 0) (255-2^(i%8))=(M.getD (i/8) 0) &&& (255-2^(i%8)) from U,Nat.testBit_and,e,Nat.testBit_two_pow_sub_succ I,Nat.testBit_two_pow,h];grind
 .grind
theorem Ov : (Gz M i).length=M.length:=cL
theorem Ow : (I7 M i).length=M.length:=cL
theorem Tc (I:a<256)(hk:k<8): Nat.lor a (2^k)<256:=Nat.or_lt_two_pow (n:=8) I (yu (by decide) hk)
theorem Ib {c:Nat}(I:a<256): Nat.land a c<256:=G9 Nat.and_le_left I
def m7 (x:Nat): Nat:=((List.range 8).filter λi => !x.testBit i).headD 8
theorem Ox : ∀x,x<255->m7 x<8/\x.testBit (m7 x)=false/\∀j,j<m7 x->x.testBit j=true:=by
 have:∀x,x<255->(decide (m7 x<8)&&(!x.testBit (m7 x)&&(List.range (m7 x)).all λj=>x.testBit j))=true:=by decide +kernel
 grind
theorem ad8 : ∀x,x<256->(∀j,j<8->x.testBit j=true)->x=255:=by
 have:∀x,x<256->((List.range 8).all λj=>x.testBit j)=true->x=255:=by decide +kernel
 grind
theorem GB (I:j<8): bt M (8*k+j)=(M.getD k 0).testBit j:=by
 grind[bt]
section
variable {h:H} {x y:Operand} {b:Nat}
theorem Td (I:k<8): binV P h .shr t x y (.int .u8 (a:Int)) (.int .i64 (k:Int))=some (.int .u8 ((a/2^k:Nat):Int)):=by
 simp only[binV,shiftV,IntKind.bits,fS];grind
theorem aby (I:k<8): binV P h .shl t x y (.int .u8 1) (.int .i64 (k:Int))=some (.int .u8 ((2^k:Nat):Int)):=by
 have cq:2^k<256:=yu (a:=2) (n:=8) (by decide) I;simp only[binV,shiftV,IntKind.bits,fS];grind[qH]
theorem DG {op:BinOp}{f:Nat->Nat->Nat}(I:a<256)(hb:b<256)(hf:f a b<256)(he:bitsV op .u8 (a:Int) (b:Int)=some (.int .u8 (IntKind.u8.wrap (f ((a:Int)%(2^(IntKind.u8).bits:Int)).toNat ((b:Int)%(2^(IntKind.u8).bits:Int)).toNat:Nat)))):
  bitsV op .u8 (a:Int) (b:Int)=some (.int .u8 ((f a b:Nat):Int)):=by
 grind[IntKind.bits,qH]
theorem Te (I:a<256)(hb:b<256): binV P h .and t x y (.int .u8 (a:Int)) (.int .u8 (b:Int))=some (.int .u8 ((Nat.land a b:Nat):Int)):=by
 simp only[binV,ikBeq,ag,intV];exact DG (f:=Nat.land) I hb (Ib I) U
theorem ac8 (I:a<256)(hk:k<8): binV P h .or t x y (.int .u8 (a:Int)) (.int .u8 ((2^k:Nat):Int))=some (.int .u8 ((Nat.lor a (2^k):Nat):Int)):=by
 simp only[binV,ikBeq,ag,intV];exact DG (f:=Nat.lor) I (yu (a:=2) (n:=8) (by decide) hk) (Tc I hk) U
theorem Tf (I:a<256)(hb:b<256): binV P h .andNot t x y (.int .u8 (a:Int)) (.int .u8 (b:Int))=some (.int .u8 ((Nat.land a (255-b):Nat):Int)):=by
 simp only[binV,ikBeq,ag,intV];exact DG (f:=λa b=>Nat.land a (255-b)) I hb (Ib I) U
theorem Lw (I:a<256): unV .xor (.int .u8 (a:Int))=some (.int .u8 ((255-a:Nat):Int)):=by
 have:∀a,a<256->Nat.xor 255 a=255-a:=by decide +kernel
 have e:bitsV .xor .u8 ((255:Nat):Int) (a:Int)=some (.int .u8 ((Nat.xor 255 a:Nat):Int)):=DG (f:=Nat.xor) (by decide) I (by grind) U;rw[this a I] at e;exact e
theorem abz : Nat.land (a/2^k) 1=if a.testBit k=true then 1 else 0:=by
 rw[Nat.testBit_eq_decide_div_mod_eq,show Nat.land (a/2^k) 1=(a/2^k) &&& 1 from U,Nat.and_one_is_mod];grind
theorem abA {f:Nat->Nat}{L:List Nat}(hu:P.underlying t=some .string)(I:∀x,x<256->nth L x=some (f x))(ha:a<256): indexV P t (.str L) (.int .u8 (a:Int))=some (.int .u8 ((f a:Nat):Int)):=by
 simp_all[indexV]
end
section
variable {told:cu} {h:H} {v x:V} {l:List Nat}
theorem LA (I:W told)(ha:a<256): Call ⟨Tryz.prog,told⟩ 204 [.int .u8 ((255-a:Nat):Int)] h λr h'=>r=.int .i64 (m7 a:Nat)/\h'=h:=by
 have hle:∀a,a<256->m7 a<=8:=by decide +kernel
 have hle:=hle a ha;have he:m7 (255-(255-a))=m7 a:=by rw[show 255-(255-a)=a by omega]
 refine Call.of_wp (I.free _ U) Tryz.func204 U U (zK 7 U (zo U (Aj U U (abA (f:=λx=>m7 (255-x)) oG (by decide +kernel) (by omega))) ?_));rw[he];refine zo U (cN U (by exact kC Tryz.underlying5 b9 ak)) ?_;exact zk 2 U (WP.ret ⟨aa,_,U,U,U⟩)
noncomputable def lwL : Code:=cX [1,1,1,0,1,0,0,1,1,0,0,1,1,1,1,0,0] ((Tryz.f162.body).getD .skip)
theorem V2 (hT:W told){lo:Nat}(hv:View h u M)(hM:M.length=375)(hn:n<=3000)(jF:lo<n)(h0:bt M lo=false)(h1:∀j,j<lo->bt M j=true): ∀(m k:Nat) (E:List (Nat×V)) (Q:Ex->List (Nat×V)->H->Prop),k+m=lo/8 ->
  Has E [(5,.int .i64 (n:Int)),(7,.int .i64 0),(39,u),(40,.int .i64 375),(41,.int .i64 (k:Int))] ->
  (∀E',look E' 2=some (.int .i64 (lo:Int))->look E' 3=some (.int .i64 0)->Q .ret E' h)->WP ⟨Tryz.prog,told⟩ 65 (.loop lwL) E h Q:=by
 intro m;induction m with
 |zero =>
  intro k E Q hk hE hq;have hb:M[k]?=some (M[k]'(by omega)):=aF _;have I:M.getD k 0=M[k]'(by omega):=by rw[th,hb];rfl
  generalize (M[k]'(by omega))=x at hb I;have hx:x<256:=hv.1 x (aI hb);obtain⟨id,off,e1,e2⟩:=eU hv hb;have Iy:x≠255:=λe=>by
   have:=GB (M:=M) (k:=k) (j:=lo%8) (by omega);rw[show 8*k+lo%8=lo by omega,h0,I,e] at this;have q:∀j,j<8->(255:Nat).testBit j=true:=by decide
   rw[q _ (by omega)] at this;cases this
  obtain⟨w1,w2,w3⟩:=Ox x (by omega);have hl:8*k+m7 x=lo:=by
   have a1:=GB (M:=M) (k:=k) (j:=m7 x) w1;rw[I,w2] at a1;rcases tE (8*k+m7 x) lo with q|q
   .rw[h1 _ q] at a1;cases a1
   .by_cases q2:lo%8<m7 x
    .have:=w3 _ q2;have a2:=GB (M:=M) (k:=k) (j:=lo%8) (by omega);rw[show 8*k+lo%8=lo by omega,h0,I,this] at a2;cases a2
    .omega
  refine WP.loop (WP.has hE (zg U (zB U aK (by simp;omega) ?_)));refine zk 5 U (WP.block (zK 3 U (zo U (bM (r:=.ptr id off) U U e1) (zl U e2 (zk 6 U (zb U (by exact iO ak) ?_))))));refine zm U (zb U (by exact iO ak) ?_);refine zb U (by exact aM ak) ?_;refine zm U (zo U (eo U (Lw hx)) (zc U (LA hT hx) ?_));rintro v h' ⟨rfl,rfl⟩;refine zo U (aq (r:=.int .i64 (lo:Int)) U U (by rw[<-hl,show(((8*k+m7 x:Nat):Int))=(3000*0+8*(k:Int))+(m7 x:Int) by omega];exact aM ak)) ?_;refine zk 5 U (zB U aE (by simp;omega) ?_);refine zk 3 U (zB U aK (by simp;omega) ?_);exact zk 9 U (WP.ret (hq _ U U))
 |succ m ih =>
  intro k E Q hk hE hq;have hb:M[k]?=some (M[k]'(by omega)):=aF _;have I:M.getD k 0=M[k]'(by omega):=by rw[th,hb];rfl
  generalize (M[k]'(by omega))=x at hb I;have hx:x<256:=hv.1 x (aI hb);obtain⟨id,off,e1,e2⟩:=eU hv hb;have Iy:x=255:=ad8 x hx λj hj=>by rw[<-I,<-GB hj];exact h1 _ (by omega)
  have Tg:∀a,a<256->m7 a<=8:=by decide +kernel
  have Tg:=Tg x hx;refine WP.loop (WP.has hE (zg U (zB U aK (by simp;omega) ?_)));refine zk 5 U (WP.block (zK 3 U (zo U (bM (r:=.ptr id off) U U e1) (zl U e2 (zk 6 U (zb U (by exact iO ak) ?_))))));refine zm U (zb U (by exact iO ak) ?_);refine zb U (by exact aM ak) ?_;refine zm U (zo U (eo U (Lw hx)) (zc U (LA hT hx) ?_));rintro v h' ⟨rfl,rfl⟩;refine zb U (by exact aM ak) ?_;refine zk 5 U (zC U aE (by simp;omega) ?_);refine zk 5 U (zv (zj U (WP.skip (zr U (zb U (by exact aM ak) ?_)))));refine zm U (zv ?_);exact ih (k+1) _ Q (by omega) ⟨U,U,U,U,U,aa⟩ hq
theorem Th (hT:W told)(hv:View h u M)(hM:M.length=375)(hn:n<=3000)(h1:∀j,j<n->bt M j=true)(h0:∀j,n<=j->bt M j=false): ∀(m k:Nat) (E:List (Nat×V)) (Q:Ex->List (Nat×V)->H->Prop),k+m=375 ->
  Has E [(5,.int .i64 (n:Int)),(7,.int .i64 0),(25,.int .i64 1),(26,.int .i64 0),(39,u),(40,.int .i64 375),(41,.int .i64 (k:Int))] ->
  (∀E',Has E' [(25,.int .i64 1),(26,.int .i64 0)]->Q (.exit 2) E' h)->WP ⟨Tryz.prog,told⟩ 65 (.loop lwL) E h Q:=by
 intro m;induction m with
 |zero =>
  intro k E Q hk I hq;refine WP.loop (WP.has I (zg U (zC U aK (by simp;omega) ?_)));exact zk 3 U (WP.exit (hq _ ⟨U,U,aa⟩))
 |succ m ih =>
  intro k E Q hk I hq;have hb:M[k]?=some (M[k]'(by omega)):=aF _;have qL:M.getD k 0=M[k]'(by omega):=by rw[th,hb];rfl
  generalize (M[k]'(by omega))=x at hb qL;have hx:x<256:=hv.1 x (aI hb);obtain⟨id,off,e1,e2⟩:=eU hv hb;have Tg:∀a,a<256->m7 a<=8:=by decide +kernel
  have Tg:=Tg x hx;have next:=λE I=>ih (k+1) E Q (by omega) I hq
  refine WP.loop (WP.has I (zg U (zB U aK (by simp;omega) ?_)));refine zk 5 U (WP.block (zK 3 U (zo U (bM (r:=.ptr id off) U U e1) (zl U e2 (zk 6 U (zb U (by exact iO ak) ?_))))));refine zm U (zb U (by exact iO ak) ?_);refine zb U (by exact aM ak) ?_;refine zm U (zo U (eo U (Lw hx)) (zc U (LA hT hx) ?_));rintro v h' ⟨rfl,rfl⟩;refine zb U (by exact aM ak) ?_;refine zk 5 U ?_;by_cases Iy:x=255
  .skip;refine zC U aE (by simp;omega) ?_;refine zk 5 U (zv (zj U (WP.skip (zr U (zb U (by exact aM ak) ?_)))));refine zm U (zv ?_);exact next _ ⟨U,U,U,U,U,U,U,aa⟩
  .obtain⟨w1,w2,w3⟩:=Ox x (by omega);have Ir:n<=8*k+m7 x:=by
    rcases tE (8*k+m7 x) n with q|q
    .have:=h1 _ q;rw[GB w1,qL,w2] at this;cases this
    .exact q
   refine zB U aE (by simp;omega) ?_;refine zk 3 U (zC U aK (by simp;omega) ?_);refine zq U (zv (zj U (WP.skip (zr U (zb U (by exact aM ak) ?_)))));refine zm U (zv ?_);exact next _ ⟨U,U,U,U,U,U,U,aa⟩
end
section
variable {h:H} {x y:Operand}
theorem Qm (I:n<3000): binV P h .quo t x y (.int .i64 (n:Int)) (.int .i64 3000)=some (.int .i64 0):=by
 have:=xE (P:=P) (h:=h) (t:=t) (x:=x) (y:=y) (a:=n) (b:=3000) (by decide) (by omega);rw[show n/3000=0 by omega] at this;exact this
theorem Qn (I:n<3000): binV P h .rem t x y (.int .i64 (n:Int)) (.int .i64 3000)=some (.int .i64 (n:Int)):=by
 have:=Az (P:=P) (h:=h) (t:=t) (x:=x) (y:=y) (a:=n) (b:=3000) (by decide);rw[show n%3000=n by omega] at this;exact this
theorem LB : binV P h .eql t x y (.int .u8 ((Nat.land (a/2^k) 1:Nat):Int)) (.int .u8 1)=some (.bool (a.testBit k)):=by
 rw[abz];cases h:a.testBit k<;>rfl
theorem abB {k:IntKind}{a b:Int}: builtinV P h .min ts [.int k a,.int k b]=some (.int k (min a b),h):=by
 grind[builtinV,foldV,Bo,fe]
end
section
variable {told:cu} {h:H} {v x:V} {l:List Nat} {sm:bk->bk->Prop}
structure fT (n:Nat)(R M:List Nat)(p:Int->List Nat): Prop where
 head:∃ex,fy (p 0) 201 n ex [ji,R]
 rl:R.length=64
 marks:∃kd lk ex,fy (p 1) kd lk ex [M]
 ml:M.length=375
 n1:2<=n
 n2:n<=2999
 own:∀j,j<2->bt M j=true
 hi:∀j,n<=j->bt M j=false
theorem V3 (hT:W told)(hR:I5 told N lv dd sm rv A pg)(b_:lv ε)(hN:2<=N)(hp:fT n R M (pg ε)){lo:Nat}(jF:lo<n)(h0:bt M lo=false)(h1:∀j,j<lo->bt M j=true)(s:Sat h (A ε::S)):
  Call ⟨Tryz.prog,told⟩ 162 [rv] h λv h'=>(∃ah,v=.aV [.int .i64 0,.int .i64 9]/\Sat h' (A ah::S)/\dd ah)\/∃ah,v=.aV [.int .i64 (lo:Int),.int .i64 0]/\lv ah/\sm ε ah/\Sat h' (A ah::S):=by
 obtain⟨ex,tc⟩:=hp.head;obtain⟨kd,lk,sC,I⟩:=hp.marks;have hM:=hp.ml;have qp:=hp.n2;refine Call.of_wp (hT.free _ U) Tryz.func162 U U (zK 8 U (zc U (Gy hT hR b_ (by omega) tc hp.rl s) ?_));rintro v h (⟨dz,rfl,s,hd⟩|⟨u,dz,rfl,kD,ej,s⟩)
 .skip;refine zk 12 U (zB U aE (by decide) ?_);exact zk 8 U (WP.ret ⟨aa,_,U,.inl ⟨dz,U,s,hd⟩⟩)
 refine zk 12 U (zC U aE (U) (zk 7 U (zc U (Cw hT (by omega) (by omega)) ?_)));rintro v h' ⟨rfl,rfl⟩;refine zb U (by exact dM ak) ?_;refine zk 2 U (WP.block (WP.loop (zg U (zB U aK (by decide) ?_))));have I:fy (pg dz 1) kd lk sC [M]:=by rw[hR.same ej];exact I
 refine zk 5 U (WP.block (zK 9 U (zc U (zT hT hR kD hN I hM (s.ae [1])) ?_)));rintro v h (⟨ij,rfl,s,hd⟩|⟨w2,u2,ij,rfl,nY,jZ,s⟩)
 .skip;refine zk 12 U (zB U aE (by decide) ?_);exact zk 8 U (WP.ret ⟨aa,_,U,.inl ⟨ij,U,s.del 1,hd⟩⟩)
 refine zk 12 U (zC U aE (U) (zk 6 U (zo U (aC U U U (bA aP (s.aD (k:=0) U (bg _ _)))) ?_)));rw[hM];refine zk 2 U (WP.block ?_);refine V2 hT (s.buf (k:=0) U).view hM (by omega) jF h0 h1 (lo/8) 0 _ _ (by omega) ⟨U,U,U,U,U,aa⟩ (λE' l2 l3=>⟨aa,_,AH l2 l3,.inr ⟨ij,U,nY,hR.tr ej jZ,?_⟩⟩);exact((s.ae [2]).del 3 |>.del 2).del 1
theorem Ti (hT:W told)(hR:I5 told N lv dd sm rv A pg)(b_:lv ε)(hN:2<=N)(I:fT n R M (pg ε))(h1:∀j,j<n->bt M j=true)(s:Sat h (A ε::S)):
  Call ⟨Tryz.prog,told⟩ 162 [rv] h λv h'=>(∃ah,v=.aV [.int .i64 0,.int .i64 9]/\Sat h' (A ah::S)/\dd ah)\/∃ah,v=.aV [.int .i64 (-1),.int .i64 0]/\lv ah/\sm ε ah/\Sat h' (A ah::S):=by
 obtain⟨ex,tc⟩:=I.head;obtain⟨kd,lk,sC,u7⟩:=I.marks;have hM:=I.ml;have qp:=I.n2;have wB:=I.n1;refine Call.of_wp (hT.free _ U) Tryz.func162 U U (zK 8 U (zc U (Gy hT hR b_ (by omega) tc I.rl s) ?_));rintro v h (⟨dz,rfl,s,hd⟩|⟨u,dz,rfl,kD,ej,s⟩)
 .skip;refine zk 12 U (zB U aE (by decide) ?_);exact zk 8 U (WP.ret ⟨aa,_,U,.inl ⟨dz,U,s,hd⟩⟩)
 refine zk 12 U (zC U aE (U) (zk 7 U (zc U (Cw hT (by omega) (by omega)) ?_)));rintro v h' ⟨rfl,rfl⟩;refine zb U (by exact dM ak) ?_;refine zk 2 U (WP.block (WP.loop (zg U (zB U aK (by decide) ?_))));have u7:fy (pg dz 1) kd lk sC [M]:=by rw[hR.same ej];exact u7
 refine zk 5 U (WP.block (zK 9 U (zc U (zT hT hR kD hN u7 hM (s.ae [1])) ?_)));rintro v h (⟨ij,rfl,s,hd⟩|⟨w2,u2,ij,rfl,nY,jZ,s⟩)
 .skip;refine zk 12 U (zB U aE (by decide) ?_);exact zk 8 U (WP.ret ⟨aa,_,U,.inl ⟨ij,U,s.del 1,hd⟩⟩)
 refine zk 12 U (zC U aE (U) (zk 6 U (zo U (aC U U U (bA aP (s.aD (k:=0) U (bg _ _)))) ?_)));rw[hM];refine zk 2 U (WP.block ?_);refine Th hT (s.buf (k:=0) U).view hM (by omega) h1 I.hi 375 0 _ _ (by omega) ⟨U,U,U,U,U,U,U,aa⟩ (λE' hE => ?_);refine WP.has hE (zr U (zb U (by exact aM ak) ?_));refine zm U (zv (WP.loop (zg U (zh U (aq U U aK) (by decide) ?_))));exact zk 3 U (WP.exit (zK 5 U (WP.ret ⟨aa,_,U,.inr ⟨ij,U,nY,hR.tr ej jZ,((s.ae [2]).del 3 |>.del 2).del 1⟩⟩)))
theorem abC (hT:W told)(hR:I5 told N lv dd sm rv A pg)(b_:lv ε)(hN:2<=N)(hp:fT n R M (pg ε))(hi:i<n)(s:Sat h (A ε::S)):
  Call ⟨Tryz.prog,told⟩ 201 [rv,.int .i64 (i:Int)] h λv h'=>(∃ah,v=.aV [.bool false,.int .i64 9]/\Sat h' (A ah::S)/\dd ah)\/∃ah,v=.aV [.bool (bt M i),.int .i64 0]/\lv ah/\sm ε ah/\Sat h' (A ah::S):=by
 obtain⟨kd,lk,sC,u7⟩:=hp.marks;have hM:=hp.ml;have qp:=hp.n2;refine Call.of_wp (hT.free _ U) Tryz.func201 U U (zK 9 U (zo U (aq (r:=.int .i64 0) U U (Qm (by omega))) ?_));refine zc U (zT hT hR b_ hN u7 hM s) ?_;rintro v h (⟨I,rfl,s,hd⟩|⟨w2,u2,I,rfl,nY,jZ,s⟩)
 .skip;refine zk 12 U (zB U aE (by decide) ?_);exact zk 8 U (WP.ret ⟨aa,_,U,.inl ⟨I,U,s,hd⟩⟩)
 have hb:M[i/8]?=some (M[i/8]'(by omega)):=aF _;have qL:M.getD (i/8) 0=M[i/8]'(by omega):=by grind
 generalize (M[i/8]'(by omega))=x at hb qL;have hv:=(s.buf (k:=0) U).view;have hx:x<256:=hv.1 x (aI hb);have Cx:x.testBit (i%8)=bt M i:=by rw[bt,qL]
 obtain⟨id,off,e1,e2⟩:=eU hv hb;have xk:x/2^(i%8)<256:=G9 (Ho _ _) hx;refine zk 12 U (zC U aE (U) (zk 7 U (zb U (Qn (by omega)) ?_)));refine zb U (xE (a:=i) (b:=8) (by decide) (by omega)) ?_;refine zo U (bM (r:=.ptr id off) U U e1) (zl U e2 (zm U (zb U (Qn (by omega)) ?_)));refine zb U (Az (a:=i) (b:=8) (by decide)) ?_;refine zb U (Td (a:=x) (k:=i%8) (by omega)) ?_;refine zb U (Te (b:=1) xk (by decide)) ?_;refine zo U (aq (r:=.bool (bt M i)) U U (by rw[<-Cx];exact LB)) ?_;exact zk 3 U (WP.ret ⟨aa,_,U,.inr ⟨I,U,nY,jZ,(s.ae [2]).del 2 |>.del 1⟩⟩)
end
section
variable {P:Int->List Nat} {n2 m:Nat} {wK qJ:List (List Nat)} {kN gL:List En} {nU nV:List Nat} {cut:Ky}
theorem Nv.two (h1:Nv F P l [] (some cut) wK kN nU)(g1:F l wK)(p1:bH (P m) 204 0 l wK)(h2:Nv F P l cut none qJ gL nV)(g2:F l qJ)(p2:bH (P n2) 204 0 l qJ)(c1:[]<cut)(c3:1<=cut.length/\cut.length<=96)(hm:m<4294967296)(hn:n2<4294967296):
  Nv F P (l+1) [] none [ff m [],ff n2 cut] (kN++gL) (m::(nU++n2::nV)):=by
 refine⟨[⟨[],m,kN,nU⟩,⟨cut,n2,gL,nV⟩],U,⟨by simp,λk I => ?_,λk I => ?_,λi k I h1 => ?_,λi k I h1 => ?_,λi j k k2 I kZ h1 h2 => ?_⟩,by simp,by simp[cW],λi k I => ?_⟩
 .simp only[gz,ke,nG] at I;rcases I with rfl|rfl
  .exact hm
  .exact hn
 .simp only[gz,ke,nG] at I;rcases I with rfl|rfl
  .exact gG _
  .exact c3.2
 .obtain⟨i,rfl⟩:∃j,i=j+1:=⟨i-1,by omega⟩;cases i with
  |zero=>simp at I;subst I;exact c3.1
  |succ i=>simp at I
 .obtain⟨i,rfl⟩:∃j,i=j+1:=⟨i-1,by omega⟩;cases i with
  |zero=>simp at I;subst I;exact⟨c1,λb hb=>by cases hb⟩
  |succ i=>simp at I
 .obtain⟨i,rfl⟩:∃j,i=j+1:=⟨i-1,by omega⟩;obtain⟨j,rfl⟩:∃q,j=q+2:=⟨j-2,by omega⟩;simp at kZ
 .match i,I with
  |0,I =>
   simp at I;subst I;exact⟨wK,h1,g1,p1⟩
  |1,I =>
   simp at I;subst I;exact⟨qJ,h2,g2,p2⟩
  |i+2,I=>simp at I
theorem Sep.LC {fZ:Ky}{eN:Option Ky}(h:Sep lo hi ks)(h1:fZ<=lo)(h2:∀b,eN=some b->∃a,hi=some a/\a<=b): Sep fZ eN ks :=
 { h with bd:=λi k I q=>⟨by have:=(h.bd i k I q).1;grind,λb hb=>by obtain⟨a,ha,mq⟩:=h2 b hb;have:=(h.bd i k I q).2 a ha;grind⟩ }
theorem Nv.LC : ∀ {l:Nat} {lo fZ:Ky} {hi eN:Option Ky} {cs:List (List Nat)} {es:List En} {ps:List Nat},Nv F P l lo hi cs es ps->fZ<=lo->(∀b,eN=some b->∃a,hi=some a/\a<=b)->Nv F P l fZ eN cs es ps:=by
 intro l;induction l with
 |zero=>intro lo fZ hi eN cs es ps ⟨h1,h2,h3⟩ a1 a2;exact⟨h1,{ h2 with bd:=λe he=>(h2.bd e he).trans a1 a2 },h3⟩
 |succ l ih =>
  intro lo fZ hi eN cs es ps ⟨ks,h1,h2,h3,h4,h5⟩ a1 a2;refine⟨ks,h1,h2.LC a1 a2,h3,h4,λi k hk => ?_⟩;obtain⟨cs',b1,b2,b3⟩:=h5 i k hk;refine⟨cs',ih b1 ?_ λb I => ?_,b2,b3⟩
  .unfold loK;split
   .exact a1
   .exact nF _
  .unfold cQ at I ⊢;cases hq:ks[i+1]? with
   |none=>rw[hq] at I;exact a2 b I
   |some k=>rw[hq] at I;exact⟨k.key,U,by rw[bB I];exact nF _⟩
end
structure jo (N:Nat)(M:List Nat)(ps:List Nat): Prop where
 nd:ps.Nodup
 mz:∀p∈ps,2<=p/\p<N
 bits:∀j,j<N->bt M j=decide (j<2\/j∈ps)
section
theorem jo.low (h:jo N M ps)(hl:ps.length+2<N): ∃lo,lo<N/\bt M lo=false/\(∀j,j<lo->bt M j=true)/\2<=lo/\lo∉ps:=by
 have hex:∃lo,lo<N/\bt M lo=false:=by
  refine GZ λwW => ?_;have kK:∀j,j<N->bt M j=true:=λj hj=>by
   cases hb:bt M j with
   |true=>rfl
   |false=>exact absurd ⟨j,hj,hb⟩ wW
  have V4:∀j∈List.range N,j∈[0,1]++ps:=λj hj=>by
   have I:=kK j (List.mem_range.1 hj);rw[h.bits j (List.mem_range.1 hj)] at I;rcases rC I with q|q
   .rw[nD];left;simp only[gz,ke,nG];omega
   .exact jt _ q
  have:=I2 List.nodup_range V4;rw[List.length_range,aN] at this;simp only[aX,bY] at this;omega
 have main:∀n,(∃lo,lo<n/\lo<N/\bt M lo=false)->∃lo,lo<N/\bt M lo=false/\∀j,j<lo->bt M j=true:=by
  intro n;induction n with
  |zero=>rintro⟨lo,I,_⟩;omega
  |succ n ih =>
   rintro⟨lo,I,h2,h3⟩;by_cases q:∃lo,lo<n/\lo<N/\bt M lo=false
   .exact ih q
   .refine⟨lo,h2,h3,λj hj => ?_⟩;cases hb:bt M j with
    |true=>rfl
    |false=>exact absurd ⟨j,by omega,by omega,hb⟩ q
 obtain⟨lo,I,h2⟩:=hex;obtain⟨lo,I,h2,h3⟩:=main N ⟨lo,I,I,h2⟩;have h4:=h.bits lo I;rw[h2] at h4;have h5:=of_decide_eq_false h4.symm;exact⟨lo,I,h2,h3,by omega,λq=>h5 (.inr q)⟩
theorem jo.more (h:jo N M ps){z:Nat}(hz:z<N)(h2:2<=z)(hn:z∉ps)(hb:∀j,bt M' j=(bt M j||decide (j=z))): jo N M' (z::ps):=by
 refine⟨List.nodup_cons.2 ⟨hn,h.nd⟩,λp I => ?_,λj hj => ?_⟩
 .rcases List.mem_cons.1 I with rfl|I
  .exact⟨h2,hz⟩
  .exact h.mz p I
 .rw[hb,h.bits j hj,<-Bool.decide_or];congr 1;simp only[gz,eq_iff_iff];constructor
  .rintro((q|q)|q)
   .exact .inl q
   .exact .inr (.inr q)
   .exact .inr (.inl q)
  .rintro(q|q|q)
   .exact .inl (.inl q)
   .exact .inr q
   .exact .inl (.inr q)
theorem jo.perm (h:jo N M ps){qs:List Nat}(I:ps.Perm qs): jo N M qs :=
 ⟨I.nodup_iff.1 h.nd,λp hq=>h.mz p (I.mem_iff.2 hq),λj hj=>by rw[h.bits j hj];congr 1;rw[I.mem_iff]⟩
end
section
variable {h:H} {v:V} {b:Nat} {bb:List Nat}
theorem ru (I:a<=b)(hb:b<=c.length): cy (oh v c) (oh (slR v a b) ((c.take b).drop a)):=λ_ _ h=>ViewM.slice h I hb
theorem LF (hc:cs[i]?=some c)(hu:P.underlying t=some (.slice e))(he:bq P e=some 1)(ha:isAggT P e=some false)(s:Sat h (pt x (.cells 4 (uZ n l bv cv) false)::.cG bv bb::roS 1 cv us::dn us cs::S)):
  ∃u id off,indexAddrV P t cv (.int .i64 (i:Int))=some (.ptr id off)/\loadV P h e (.ptr id off)=some u/\us[i]?=some u/\Sat h (pt x (.cells 4 (uZ n l bv cv) false)::.cG bv bb::roS 1 cv us::dn us cs::oh u c::S):=by
 obtain⟨u,I,s1⟩:=S8 (s.ae [3]) hc;have hl:=kj (s.ae [3]);have hi:=(List.getElem?_eq_some_iff.1 hc).1;obtain⟨id,off,e1,e2⟩:=VX (P:=P) (t:=t) (e:=e) (i:=i) (s.jm (j:=2) U (cR _ _ _)) (by omega) (by decide) hu he;refine⟨u,id,off,e1,?_,I,?_⟩
 .have:=e2 0 u e (by rw[cH,hO,ay (by decide),fB,eH];exact I) ha
  rwa [eH] at this
 .have s1:=s1.ae [2,2,2,1,0];exact s1
theorem gR (hu:P.underlying t=some (.slice e))(s:Sat h (pt x (.cells 4 (uZ n l bv cv) false)::.cG bv bb::roS 1 cv us::dn us cs::S)): lenV P h t cv=some (.int .i64 (cs.length:Int)) :=
 zP (s.jm (j:=2) U (cR _ _ _)) (by rw[kj (s.ae [3]),cH]) (by decide) hu
end
section
variable {told:cu} {h:H} {v vv:V} {k val:List Nat}
theorem oR (hT:W told)(hc:cs[i]?=some c)(I:iT l c)(hl:l<=64)(gn:c.length<=225)(s:Sat h (aW x n l b cs::S)):
  Call ⟨Tryz.prog,told⟩ 117 [.ptr x 0,.int .i64 (i:Int)] h λr h'=>Sat h' (oh r (fM l c)::aW x n l b cs::S):=by
 obtain⟨bv,cv,us,s⟩:=aT.1 s
 obtain⟨u,id,off,e1,e2,hui,s⟩:=LF (P:=Tryz.prog) hc aO dQ b8 s
 have hv:=s.aD (k:=4) U (bC _ _)
 refine Call.of_wp (hT.free _ U) Tryz.func117 U U (zK 9 U (zY s 0 ew bT U ?_))
 by_cases h0:l=0
 .subst h0
  have I:1<=c.length/\1+c.getD 0 0<=c.length:=I
  have m8:c[0]?=some (c.getD 0 0):=by grind
  obtain⟨lU,bo,e3,e4⟩:=eU hv m8
  have pE:fM 0 c=(c.take (1+c.getD 0 0)).drop 1:=by rw[fM,ay U,l7,tj]
  generalize c.getD 0 0=z at I m8 e3 e4 pE
  have hz:z<256:=hv.1 z (aI m8)
  refine zC U cP (by simp) ?_
  refine zk 4 U ?_
  have z0:=s
  refine WP.drawn [af,af,af,af,af,af,af,af,af,af,af,af,af,af,af,af,af,af,af] U (by kernel_rfl) (by kernel_rfl) ?_
  refine zM U (zN U (zF U (cM _ _) (zL U (s.ld (k:=0) U gu U) (zM U (zO U (bM (r:=.ptr id off) U U e1) (zL U e2 (zM U (zN U (zF U (cM _ _) (zL U (s.ld (k:=0) U gu U) (zM U (zO U (bM (r:=.ptr id off) U U e1) (zL U e2 (zO U (bM (r:=.ptr lU bo) U U e3) (zL U e4 (zO U (aq (r:=.int .u8 ((1+z:Nat):Int)) U U (by rw[show((1+z:Nat):Int)=1+(z:Int) by omega];exact aM qH)) ?_))))))))))))))))
  refine zO U (bK (p:=some (.int .i64 1)) (q:=some (.int .u8 ((1+z:Nat):Int))) (m:=none) (p':=some 1) (q':=some (1+z)) (m':=none) U U U U (by rfl) (by rw[bN];rfl) U (fR hv (by omega) (by omega)).1) ?_
  refine zA U ?_
  refine aB.nil ⟨⟨aa,aa,aa,aa,aa,aa,aa,aa,aa,aa,aa,aa,aa,aa,aa,aa,aa,aa,aa,aa⟩,?_⟩
  refine WP.ret ⟨aa,_,U,?_⟩
  have s:=(s.ae [4]).eD (ru (a:=1) (b:=1+z) (by omega) (by omega))
  rw[<-pE] at s
  have s:=s.ae [1,1,1,1]
  exact((aT.2 ⟨bv,cv,us,s⟩).ae [1])
 .have I:4<=c.length:=by rw[iT,ai h0] at I;exact I
  have pE:fM l c=(c.take c.length).drop 4:=by rw[fM,ai h0,jP]
  refine zB U cP (by simp;omega) ?_
  refine zk 6 U (zY s 0 cM gu U (zm U (zo U (bM (r:=.ptr id off) U U e1) (zl U e2 (zo U (bK (p:=some (.int .i64 4)) (q:=none) (m:=none) (p':=some 4) (q':=none) (m':=none) U U U U (by rfl) U U (iu hv I).1) ?_)))))
  refine zk 2 U (WP.ret ⟨aa,_,U,?_⟩)
  have s:=(s.ae [4]).eD (ru (a:=4) (b:=c.length) I (aH _))
  rw[<-pE] at s
  have s:=s.ae [1,1,1,1]
  exact((aT.2 ⟨bv,cv,us,s⟩).ae [1])
theorem DH (hT:W told)(hc:cs[i]?=some c)(I:iT 0 c)(gn:c.length<=225)(s:Sat h (aW x n 0 b cs::S)):
  Call ⟨Tryz.prog,told⟩ 50 [.ptr x 0,.int .i64 (i:Int)] h λr h'=>Sat h' (oh r (c.drop (1+c.getD 0 0))::aW x n 0 b cs::S):=by
 obtain⟨bv,cv,us,s⟩:=aT.1 s
 obtain⟨u,id,off,e1,e2,hui,s⟩:=LF (P:=Tryz.prog) hc aO dQ b8 s
 have hv:=s.aD (k:=4) U (bC _ _)
 have I:1<=c.length/\1+c.getD 0 0<=c.length:=I
 have m8:c[0]?=some (c.getD 0 0):=by grind
 obtain⟨lU,bo,e3,e4⟩:=eU hv m8
 have J9:c.drop (1+c.getD 0 0)=(c.take c.length).drop (1+c.getD 0 0):=by rw[jP]
 rw[J9]
 generalize c.getD 0 0=z at I m8 e3 e4
 have hz:z<256:=hv.1 z (aI m8)
 refine Call.of_wp (hT.free _ U) Tryz.func50 U U (zK 5 U ?_)
 have z0:=s
 refine WP.drawn [af,af,af,af,af,af,af,af,af,af,af,af,af,af,af,af,af,af,af,af] U (by kernel_rfl) (by kernel_rfl) ?_
 refine zM U (zN U (zF U (cM _ _) (zL U (s.ld (k:=0) U gu U) (zM U (zO U (bM (r:=.ptr id off) U U e1) (zL U e2 (zM U (zN U (zF U (cM _ _) (zL U (s.ld (k:=0) U gu U) (zM U (zO U (bM (r:=.ptr id off) U U e1) (zL U e2 (zO U (bM (r:=.ptr lU bo) U U e3) (zL U e4 (aB.op U U U (by simp only[isEff,b9]) (cN U (by exact kC Tryz.underlying5 b9 ak)) ?_))))))))))))))))
 refine zO U (aq (r:=.int .i64 ((1+z:Nat):Int)) U U (by rw[show((1+z:Nat):Int)=1+(z:Int) by omega];exact aM ak)) ?_
 refine zO U (bK (p:=some (.int .i64 ((1+z:Nat):Int))) (q:=none) (m:=none) (p':=some (1+z)) (q':=none) (m':=none) U U U U (by rw[bN];rfl) U U (iu hv (by omega)).1) ?_
 refine zA U ?_
 refine aB.nil ⟨⟨aa,aa,aa,aa,aa,aa,aa,aa,aa,aa,aa,aa,aa,aa,aa,aa,aa,aa,aa,aa,aa⟩,?_⟩
 refine WP.ret ⟨aa,_,U,?_⟩
 have s:=(s.ae [4]).eD (ru (a:=1+z) (b:=c.length) (by omega) (aH _))
 have s:=s.ae [1,1,1,1]
 exact((aT.2 ⟨bv,cv,us,s⟩).ae [1])
theorem DI (hT:W told){k:Ky}{m:Nat}(hc:cs[i]?=some (ff m k))(hm:m<4294967296)(s:Sat h (aW x n l b cs::S)):
  Call ⟨Tryz.prog,told⟩ 78 [.ptr x 0,.int .i64 (i:Int)] h λr h'=>r=.int .i64 (m:Int)/\Sat h' (aW x n l b cs::S):=by
 obtain⟨bv,cv,us,s⟩:=aT.1 s;obtain⟨u,id,off,e1,e2,hui,s⟩:=LF (P:=Tryz.prog) hc aO dQ b8 s;have hv:=s.aD (k:=4) U (bC _ _);have I:=cO 4 m;have hl:4<=(ff m k).length:=by rw[ff,aN,I];omega
 have ht:((ff m k).take 4).drop 0=le 4 m:=by rw[gi,ff,ga I]
 refine Call.of_wp (hT.free _ U) Tryz.func78 U U (zK 8 U (zY s 0 cM gu U (zm U (zo U (bM (r:=.ptr id off) U U e1) (zl U e2 (zo U (bK (p:=none) (q:=some (.int .i64 4)) (m:=none) (p':=none) (q':=some 4) (m':=none) U U U U U (by rfl) U (U4 hv hl).1) ?_))))));have s:=(s.ae [4]).eD (ru (a:=0) (b:=4) (gG _) hl);rw[ht] at s;refine zc U (HS hT s (k:=0) U (bC _ _) (by rw[I];decide)) ?_;rintro r h' ⟨rfl,rfl⟩;rw[Cp,vD (by simpa using hm)];refine zo U (cN U (by exact kC eZ b9 ak)) ?_;refine zk 2 U (WP.ret ⟨aa,_,U,?_⟩);have s:=s.ae [1,1,1,1];exact⟨U,(aT.2 ⟨bv,cv,us,s⟩).del 1⟩
theorem ZG (hT:W told)(s:Sat h (X::Y::S))(I:cy X (cE kv k))(hY:cy Y (cE vv val))(hk:k.length<=200)(hv:val.length<=200):
  Call ⟨Tryz.prog,told⟩ 47 [kv,vv] h λr h'=>Sat h' (aY r (eE (k,val))::X::Y::S):=by
 refine Call.of_wp (hT.free _ U) Tryz.func47 U U (zK 7 U (zo U (aC U U U (bA aP (s.aD (k:=0) U I))) (zo U (aq (r:=.int .i64 ((1+k.length:Nat):Int)) U U (by rw[show((1+k.length:Nat):Int)=1+(k.length:Int) by omega];exact aM ak)) ?_)));refine zm U (zo U (aC U U U (bA aP (s.aD (k:=1) U hY))) (zo U (aq (r:=.int .i64 ((1+k.length+val.length:Nat):Int)) U U (by rw[show((1+k.length+val.length:Nat):Int)=((1+k.length:Nat):Int)+(val.length:Int) by omega];exact aM ak)) ?_));refine au.any U U U (OpR.ux U s U U U U (by omega)) ?_;intro w0 h s;refine zm U (zo U (aC U U U (bA aP (s.aD (k:=1) U I))) (zo U (cN U (by exact kC b9 Tryz.underlying5 qH)) ?_));refine au.any U U U (OpR.JN U s U U U (by omega)) ?_;intro w1 h s;refine au.any U U U (OpR.qy U (s.ae [1,0]) (bg _ _) U U U U (by simp)) ?_;intro w2 h s;have s:=(s.del 1).ae [0,0,0];refine zm U (au.any U U U (OpR.qy U s I U U U U (by simp;omega)) ?_);intro w3 h s;refine zm U (au.any U U U (OpR.qy U (s.ae [0,1]) hY U U U U (by simp;omega)) ?_);intro w4 h s;refine zk 2 U (WP.ret ⟨aa,_,U,?_⟩);have s:=s.ae [0,1,0];exact s
theorem zU (I:W told){m:Nat}(hm:m<4294967296)(s:Sat h (X::S))(hX:cy X (cE kv k))(hk:k.length<=200):
  Call ⟨Tryz.prog,told⟩ 132 [.int .i64 (m:Int),kv] h λr h'=>Sat h' (aY r (ff m k)::X::S):=by
 have s:=s.FT;refine Call.of_wp (I.free _ U) Tryz.func132 U U (zK 7 U (zo U (cN U (by exact kC b9 eZ iN)) ?_));refine zc U (F7 (l:=[]) (z:=4) (n:=m) I s (by decide) (by rw[bY];omega)) ?_;intro bv h s;rw[dJ] at s;have h4:=cO 4 m;refine zm U (au.any U U U (OpR.qy U s hX U U U U (by omega)) ?_);intro w h s;exact zk 2 U (WP.ret ⟨aa,_,U,s⟩)
end
def SA (a p q r:Nat)(op:V)(data:List Nat)(aQ:Nat)(ε:bk): aG:=star [gM a p q r op data aQ,gE r p q ε.1,dF q p ε.2.1,bX p ε.2.2]
def GA (g a p q r:Nat)(data:List Nat)(aQ:Nat)(now:List (Int×List Nat))(ε:bk): aG:=star [iS g a now false,gM a p q r (.ptr g 0) data aQ,gE r p q ε.1,dF q p ε.2.1,bX p ε.2.2]
def pgG (now:List (Int×List Nat))(ε:bk)(n:Int): List Nat:=match lookL n now with
 |some b=>b
 |none=>pgA ε n
theorem gI (h:Sm N ε ah): pgG now ah=pgG now ε:=by
 funext n;unfold pgG;rw[h.1]
theorem eY {i n:Int}: pgG (cD i b now) ε n=if i=n then b else pgG now ε n:=by
 grind[pgG,mP]
section
variable {told:cu} {h:H} {p:Nat} {v x op:V} {l:List Nat} {sm:bk->bk->Prop}
theorem V5 (hT:W told)(hB:B<=2000): my told N B (.iface 24 (.ptr a 0)) (SA a p q r op data aQ) pgA:=by
 refine⟨⟨_,_,_,U,Zr,λ{h S ε n} I h0 h1 s => ?_⟩,λhs=>hs.1⟩;have AI:=I.dH;have hwt:=tQ (ε:=ε);have s:=dx.1 s;refine(Ez hT (n:=n) s I.ok.ok I.ok.pins (by omega)).mono ?_;rintro v h ⟨e,b,ah,hr,hs⟩;obtain⟨k1,k2,k3,k4⟩:=hr.ec I.ec I.ok.pins;obtain⟨rfl,rfl⟩:=k3 h0 h1;rcases hs with⟨he,_⟩|⟨_,u,rfl,s⟩
 .omega
 .have s2:Sat h (SA a p q r op data aQ ah::aY u (pgA ε n)::S):=dx.2 (s.ae [1,1,1,1,0]);exact⟨u,ah,U,I.rd hr,⟨k2,λP hP hv=>hP.rd hr I.ec hv,hr.dH⟩,s2.ae [1]⟩
theorem EH (hT:W told)(hB:B<=2000)(hw:NW N now): my told N B (.iface 32 (.ptr g 0)) (GA g a p q r data aQ now) (pgG now):=by
 refine⟨⟨_,_,_,U,Oa,λ{h S ε n} I h0 h1 s => ?_⟩,λhs m=>by rw[gI hs]⟩;have AI:=I.dH;have hwt:=tQ (ε:=ε);have s:=dx.1 s;refine(KZ hT (n:=n) s I.ok (by omega) (λe he=>jU (hw.good e he).1)).mono ?_;rintro v h ⟨e,b,ah,hr,hs⟩;obtain⟨k1,k2,k3,k4⟩:=hr.ec I.ec I.ok.pins;obtain⟨rfl,hb⟩:=k3 h0 h1;have hb:b=pgG now ε n:=hb;subst hb;rcases hs with⟨he,_⟩|⟨_,u,rfl,s⟩
 .omega
 .have s2:Sat h (GA g a p q r data aQ now ah::aY u (pgG now ε n)::S):=dx.2 (s.ae [1,1,1,1,1,0]);exact⟨u,ah,U,I.Co hr,⟨k2,λP hP hv=>hP.Co hr I.ec hv,hr.dH⟩,s2.ae [1]⟩
theorem Qo (hT:W told)(hB:B<=2000)(I:EI N B ε)(hw:NW N now)(hi:i<N)(s:Sat h (GA g a p q r data aQ now ε::X::S))(hX:cy X (cE x b))(hp:fy b kd link extra cs):
  Call ⟨Tryz.prog,told⟩ 55 [.ptr g 0,.int .i64 (i:Int),x] h λv h'=>∃ah,v=.int .i64 0/\EI N B ah/\Sm N ε ah/\NW N (cD (i:Int) b now)/\Sat h' (GA g a p q r data aQ (cD (i:Int) b now) ah::X::S):=by
 have AI:=I.dH;have hwt:=tQ (ε:=ε);have hlen:=hp.len;have hb:=(s.aD (k:=1) U hX).1;have s:=dx.1 s;refine(IV hT (n:=(i:Int)) s hX (by omega) I.ok (by omega) (λe he=>jU (hw.good e he).1)).mono ?_;rintro v h ⟨e,aJ,ah,hr,rfl,s⟩;obtain⟨k1,k2,k3,k4,k5⟩:=hr.ec I.ec I.ok.pins;obtain⟨rfl,rfl⟩:=k5 (by omega) (by omega) hp.good;exact⟨ah,U,I.K4 hr,⟨k2,λP hP hv=>hP.K4 hr I.ec hv,hr.dH⟩,hw.put (by omega) (by omega) hp.good hb,dx.2 s⟩
structure Mo (told:cu)(N:Nat)(lv dd:bk->Prop)(sm:bk->bk->Prop): Prop where
 rf:∀a:bk,sm a a
 tr:∀ {a b c:bk},sm a b->sm b c->sm a c
 pg:∀ {a b:bk},sm a b->∀m,pgA b m=pgA a m
 gr:∀ {g a p q r aQ:Nat} {data:List Nat} {now:List (Int×List Nat)},NW N now->I5 told N lv dd sm (.iface 32 (.ptr g 0)) (GA g a p q r data aQ now) (pgG now)
 gw:∀ {h:H} {S:List aG} {X:aG} {g a p q r aQ i kd link extra:Nat} {data b:List Nat} {now:List (Int×List Nat)} {x:V} {cs:List (List Nat)} {ε:bk},lv ε->NW N now->i<N->Sat h (GA g a p q r data aQ now ε::X::S)->cy X (cE x b)->fy b kd link extra cs ->
  Call ⟨Tryz.prog,told⟩ 55 [.ptr g 0,.int .i64 (i:Int),x] h λv h'=>(∃ah,v=.int .i64 9/\Sat h' (GA g a p q r data aQ now ah::X::S)/\dd ah)\/∃ah,v=.int .i64 0/\lv ah/\sm ε ah/\NW N (cD (i:Int) b now)/\Sat h' (GA g a p q r data aQ (cD (i:Int) b now) ah::X::S)
 dr:∀ {h:H} {S:List aG} {g a p q r aQ:Nat} {data:List Nat} {now:List (Int×List Nat)} {ε:bk} {n:Int},dd ε->NW N now->Sat h (GA g a p q r data aQ now ε::S) ->
  Call ⟨Tryz.prog,told⟩ 255 [.ptr g 0,.int .i64 n] h λv h'=>∃(w:V) (e:Int) (ah:bk),v=.aV [w,.int .i64 e]/\dd ah/\Sat h' (GA g a p q r data aQ now ah::S)
theorem Mo.live (hT:W told)(hB:B<=2000): Mo told N (EI N B) noD (Sm N) :=
 ⟨Sm.refl N,Sm.trans,λh=>h.1,λhw=>(EH hT hB hw).m,λI hw hi s hX hp=>(Qo hT hB I hw hi s hX hp).mono λ_ _ k=>.inr k,λhd=>hd.elim⟩
theorem Mo.pgG (I:Mo told N lv dd sm)(h:sm ε ah): Am.pgG now ah=Am.pgG now ε:=by
 funext n;unfold Am.pgG;rw[I.pg h]
def X6 (N g a p q r:Nat)(data:List Nat)(aQ:Nat)(dd:bk->Prop)(S:List aG)(h:H): Prop:=∃(ε:bk) (now:List (Int×List Nat)),NW N now/\Sat h (GA g a p q r data aQ now ε::S)/\dd ε
theorem fT.put {P:Int->List Nat}(h:fT N R M P)(h0:P' 0=P 0)(I:∃kd lk ex,fy (P' 1) kd lk ex [M'])(hl:M'.length=375)(ho:∀j,j<2->bt M' j=true)(hh:∀j,N<=j->bt M' j=false): fT N R M' P' :=
 ⟨by rw[h0];exact h.head,h.rl,I,hl,h.n1,h.n2,ho,hh⟩
theorem gy {i:Int}: ∀ {now:List (Int×List Nat)},(cD i b now).length<=now.length+1:=by
 intro now;induction now<;>grind[cD]
theorem Tj (hT:W told)(hM:Mo told N lv dd sm)(b_:lv ε)(hw:NW N now)(hp:fT N R M (pgG now ε))(hi:i<N)(fc:2<=i){bl:Bool}(s:Sat h (GA g a p q r data aQ now ε::S)):
  Call ⟨Tryz.prog,told⟩ 168 [.ptr g 0,.int .i64 (i:Int),.bool bl] h λv h'=>(v=.int .i64 9/\X6 N g a p q r data aQ dd S h')\/∃ah aJ,v=.int .i64 0/\lv ah/\sm ε ah/\NW N aJ/\aJ.length<=now.length+1/\fT N R (if bl then Gz M i else I7 M i) (pgG aJ ah)/\(∀m,m≠1->pgG aJ ah m=pgG now ε m) /\
   Sat h' (GA g a p q r data aQ aJ ah::S):=by
 obtain⟨kd,lk,sC,u7⟩:=hp.marks;have hMl:=hp.ml;have qp:=hp.n2;have hi8:i/8<M.length:=by omega
 have hb:M[i/8]?=some (M[i/8]'(by omega)):=aF _;have qL:M.getD (i/8) 0=M[i/8]'(by omega):=by grind
 generalize (M[i/8]'(by omega))=z at hb qL
 -- what is so behind it
 have fin:∀ {ah:bk} {b':List Nat} {M':List Nat},sm ε ah->fy b' kd lk sC [M']->M'.length=375->(∀j,bt M' j=if j=i then bl else bt M j)->fT N R M' (pgG (cD 1 b' now) ah)/\(∀m,m≠1->pgG (cD 1 b' now) ah m=pgG now ε m):=λ{ah b' M'} hs I hl Cx =>
  ⟨hp.put (by rw[eY,ai (by decide),hM.pgG hs]) ⟨_,_,_,by rw[eY,ay U];exact I⟩ hl (λj hj=>by rw[Cx,ai (by omega)];exact hp.own j hj) (λj hj=>by rw[Cx,ai (by omega)];exact hp.hi j hj),
   λm hm=>by rw[eY,ai (by omega),hM.pgG hs]⟩
 refine Call.of_wp (hT.free _ U) Tryz.func168 U U (zK 7 U (zo U (oz U (mki_of jH U)) (zm U (zo U (aq (r:=.int .i64 0) U U (Qm (by omega))) ?_))));refine zc U (zT hT (hM.gr hw) b_ (by omega) u7 hMl s) ?_;rintro v h (⟨ij,rfl,s,hd⟩|⟨w2,u2,ij,rfl,nY,jZ,s⟩)
 .skip;refine zk 12 U (zB U aE (by decide) ?_);exact zk 7 U (WP.ret ⟨aa,_,U,.inl ⟨U,ij,now,hw,s,hd⟩⟩)
 have hv:=(s.buf (k:=0) U).view;have hz:z<256:=hv.1 z (aI hb);have h2k:2^(i%8)<256:=yu (a:=2) (n:=8) (by decide) (by omega);obtain⟨id,off,e1,e2⟩:=eU hv hb;refine zk 12 U (zC U aE (U) (zk 6 U (zb U (Qn (by omega)) ?_)));refine zb U (Az (a:=i) (b:=8) (by decide)) ?_;refine zb U (aby (k:=i%8) (by omega)) ?_;refine zk 6 U (zb U (Qn (by omega)) ?_);refine zb U (xE (a:=i) (b:=8) (by decide) (by omega)) ?_;refine zk 6 U ?_;cases bl with
 |true =>
  obtain⟨r8,oX,e3,h4,e4,s2⟩:=oP s (i:=i/8) (b:=Nat.lor z (2^(i%8))) (by omega) (Tc hz (by omega));have ee:V.ptr id off=V.ptr r8 oX:=by grind
  rw[<-ee] at e4;refine zK 4 U (zo U (bM (r:=.ptr id off) U U e1) (zl U e2 (zm U (zb U (ac8 hz (by omega)) ?_))));refine zo U (bM (r:=.ptr id off) U U e1) (zS U (⟨h4,e4,s2⟩) ?_);rintro h s;rw[<-qL] at s;have s:Sat h (aY u2 (Gz M i)::_):=s;refine zk 6 U (zc U (Og (i:=0) (c:=M) hT (s.ae [1,0]) (bg _ _) (bg _ _) u7 U Ov) ?_);rintro v h ⟨w3,b',rfl,I,s⟩;refine zk 9 U (zC U aE (U) (zk 7 U (zo U (aq (r:=.int .i64 0) U U (Qm (by omega))) ?_)));refine zb U (by exact aM ak) ?_;refine zm U (zc U (hM.gw (i:=1) nY hw (by omega) (s.ae [3,0]) (bg _ _) I) ?_);rintro v h (⟨kQ,rfl,s,hd⟩|⟨kQ,rfl,xF,r9,zV,s⟩)
  .skip;exact zk 2 U (WP.ret ⟨aa,_,U,.inl ⟨U,kQ,now,hw,((s.ae [0]).del 3 |>.del 2).del 1,hd⟩⟩)
  refine zk 2 U (WP.ret ⟨aa,_,U,?_⟩);obtain⟨f1,f2⟩:=fin (hM.tr jZ r9) I (by rw[Ov];exact hMl) (λj=>X4 hi8);exact .inr ⟨kQ,_,U,xF,hM.tr jZ r9,zV,gy,f1,f2,((s.ae [0]).del 3 |>.del 2).del 1⟩
 |false =>
  obtain⟨r8,oX,e3,h4,e4,s2⟩:=oP s (i:=i/8) (b:=Nat.land z (255-2^(i%8))) (by omega) (Ib hz);have ee:V.ptr id off=V.ptr r8 oX:=by grind
  rw[<-ee] at e4;refine zK 4 U (zo U (bM (r:=.ptr id off) U U e1) (zl U e2 (zm U (zb U (Tf hz h2k) (zo U (bM (r:=.ptr id off) U U e1) (zS U (⟨h4,e4,s2⟩) ?_))))));rintro h s;rw[<-qL] at s;have s:Sat h (aY u2 (I7 M i)::_):=s;refine zk 6 U (zc U (Og (i:=0) (c:=M) hT (s.ae [1,0]) (bg _ _) (bg _ _) u7 U Ow) ?_);rintro v h ⟨w3,b',rfl,I,s⟩;refine zk 9 U (zC U aE (U) (zk 7 U (zo U (aq (r:=.int .i64 0) U U (Qm (by omega))) ?_)));refine zb U (by exact aM ak) ?_;refine zm U (zc U (hM.gw (i:=1) nY hw (by omega) (s.ae [3,0]) (bg _ _) I) ?_);rintro v h (⟨kQ,rfl,s,hd⟩|⟨kQ,rfl,xF,r9,zV,s⟩)
  .skip;exact zk 2 U (WP.ret ⟨aa,_,U,.inl ⟨U,kQ,now,hw,((s.ae [0]).del 3 |>.del 2).del 1,hd⟩⟩)
  refine zk 2 U (WP.ret ⟨aa,_,U,?_⟩);obtain⟨f1,f2⟩:=fin (hM.tr jZ r9) I (by rw[Ow];exact hMl) (λj=>X5 hi8);exact .inr ⟨kQ,_,U,xF,hM.tr jZ r9,zV,gy,f1,f2,((s.ae [0]).del 3 |>.del 2).del 1⟩
theorem ZH (hT:W told)(hM:Mo told N lv dd sm)(b_:lv ε)(hw:NW N now)(hp:fT N R M (pgG now ε)){lo:Nat}(jF:lo<N)(h0:bt M lo=false)(h1:∀j,j<lo->bt M j=true)(s:Sat h (GA g a p q r data aQ now ε::S)):
  Call ⟨Tryz.prog,told⟩ 100 [.ptr g 0] h λv h'=>(v=.aV [.int .i64 0,.int .i64 9]/\X6 N g a p q r data aQ dd S h')\/∃ah aJ,v=.aV [.int .i64 (lo:Int),.int .i64 0]/\lv ah/\sm ε ah/\NW N aJ/\aJ.length<=now.length+2/\fT N R (Gz M lo) (pgG aJ ah)/\(∀m,m≠1->m≠(lo:Int)->pgG aJ ah m=pgG now ε m)/\fy (pgG aJ ah lo) 0 0 0 []/\pgG aJ ah lo=x_ 0 /\
   Sat h' (GA g a p q r data aQ aJ ah::S):=by
 have wB:=hp.n1;have h2:2<=lo:=by
  rcases tE lo 2 with hq|hq
  .rw[hp.own lo hq] at h0;cases h0
  .exact hq
 refine Call.of_wp (hT.free _ U) Tryz.func100 U U (zK 8 U (zo U (oz U (mki_of jH U)) (zc U (V3 hT (hM.gr hw) b_ (by omega) hp jF h0 h1 s) ?_)));rintro v h (⟨dz,rfl,s,hd⟩|⟨dz,rfl,kD,ej,s⟩)
 .skip;refine zk 7 U (WP.block (zK 3 U (zB U aE (by decide) ?_)));exact zk 9 U (WP.ret ⟨aa,_,U,.inl ⟨U,dz,now,hw,s,hd⟩⟩)
 have u7:fT N R M (pgG now dz):=by rw[hM.pgG ej];exact hp
 refine zk 7 U (WP.block (zK 3 U (zC U aE (U) (zk 6 U (zC U aK (by simp) ?_)))));refine za U (zv (zj U (WP.skip (zw (zg U (zk 2 U (zc U (Tj (bl:=true) hT hM kD hw u7 jF h2 s) ?_)))))));rintro v h (⟨rfl,hd⟩|⟨ij,mB,rfl,nY,jZ,X7,iJ,I,y_,s⟩)
 .skip;refine zk 5 U (zB U aE (by decide) ?_);exact zk 8 U (WP.ret ⟨aa,_,U,.inl ⟨U,hd⟩⟩)
 refine za U (zv (zg U (zm U (zh U (aq U U aE) (U) (zv (zj U (WP.skip (zg U (zc U (IY (kd:=0) hT s (by decide)) ?_)))))))));rintro v h ⟨u,rfl,s⟩;have qo:fy (x_ 0) 0 0 0 []:=fy.new (k:=0);generalize hbn:x_ 0=b' at s qo;refine zk 12 U (zc U (hM.gw (i:=lo) nY X7 jF (s.ae [1,0]) (bg _ _) qo) ?_);rintro v h (⟨kQ,rfl,s,hd⟩|⟨kQ,rfl,xF,r9,zV,s⟩)
 .skip;refine zk 5 U (zB U aE (by decide) ?_);exact zk 8 U (WP.ret ⟨aa,_,U,.inl ⟨U,kQ,mB,X7,s.del 1,hd⟩⟩)
 refine zk 5 U (zC U aE (U) (zk 9 U (WP.ret ⟨aa,_,U,?_⟩)));have I:fT N R (Gz M lo) (pgG mB ij):=I;refine .inr ⟨kQ,_,U,xF,hM.tr (hM.tr ej jZ) r9,zV,c_ gy (by omega),I.put (by rw[eY,ai (by omega),hM.pgG r9]) ?_ I.ml I.own I.hi,λm o7 qC=>by rw[eY,ai (by omega),hM.pgG r9,y_ m o7,hM.pgG ej],by grind[eY],by rw[eY,ay U],s.del 1⟩;rw[eY,ai (by omega),hM.pgG r9];exact I.marks
theorem Tk (hT:W told)(hB:B<=2000)(I:EI N B ε)(hw:NW N now)(hp:fT N R M (pgG now ε)){lo:Nat}(jF:lo<N)(h0:bt M lo=false)(h1:∀j,j<lo->bt M j=true)(s:Sat h (GA g a p q r data aQ now ε::S)):
  Call ⟨Tryz.prog,told⟩ 100 [.ptr g 0] h λv h'=>∃ah aJ,v=.aV [.int .i64 (lo:Int),.int .i64 0]/\EI N B ah/\Sm N ε ah/\NW N aJ/\aJ.length<=now.length+2/\fT N R (Gz M lo) (pgG aJ ah)/\(∀m,m≠1->m≠(lo:Int)->pgG aJ ah m=pgG now ε m)/\fy (pgG aJ ah lo) 0 0 0 []/\pgG aJ ah lo=x_ 0 /\
   Sat h' (GA g a p q r data aQ aJ ah::S) :=
 (ZH hT (Mo.live hT hB) I hw hp jF h0 h1 s).mono λ_ _ k=>k.resolve_left λ⟨_,_,_,_,_,q⟩=>q
theorem V6 (hT:W told)(hM:Mo told N lv dd sm)(b_:lv ε)(hw:NW N now)(hp:fT N R M (pgG now ε))(h1:∀j,j<N->bt M j=true)(s:Sat h (GA g a p q r data aQ now ε::S)):
  Call ⟨Tryz.prog,told⟩ 100 [.ptr g 0] h λv h'=>(v=.aV [.int .i64 0,.int .i64 9]/\X6 N g a p q r data aQ dd S h')\/∃ah,v=.aV [.int .i64 0,.int .i64 7]/\lv ah/\sm ε ah/\Sat h' (GA g a p q r data aQ now ah::S):=by
 have wB:=hp.n1;refine Call.of_wp (hT.free _ U) Tryz.func100 U U (zK 8 U (zo U (oz U (mki_of jH U)) (zc U (Ti hT (hM.gr hw) b_ (by omega) hp h1 s) ?_)));rintro v h (⟨dz,rfl,s,hd⟩|⟨dz,rfl,I,ej,s⟩)
 .skip;refine zk 7 U (WP.block (zK 3 U (zB U aE (by decide) ?_)));exact zk 9 U (WP.ret ⟨aa,_,U,.inl ⟨U,dz,now,hw,s,hd⟩⟩)
 refine zk 7 U (WP.block (zK 3 U (zC U aE (U) (zk 6 U (zB U aK (by decide) ?_)))));exact zk 8 U (WP.ret ⟨aa,_,U,.inr ⟨dz,U,I,ej,s⟩⟩)
theorem Qp (hT:W told)(hB:B<=2000)(I:EI N B ε)(hw:NW N now)(hp:fT N R M (pgG now ε))(h1:∀j,j<N->bt M j=true)(s:Sat h (GA g a p q r data aQ now ε::S)):
  Call ⟨Tryz.prog,told⟩ 100 [.ptr g 0] h λv h'=>∃ah,v=.aV [.int .i64 0,.int .i64 7]/\EI N B ah/\Sm N ε ah/\Sat h' (GA g a p q r data aQ now ah::S) :=
 (V6 hT (Mo.live hT hB) I hw hp h1 s).mono λ_ _ k=>k.resolve_left λ⟨_,_,_,_,_,q⟩=>q
theorem ZI (hT:W told)(hM:Mo told N lv dd sm)(b_:lv ε)(hw:NW N now)(hp:fT N R M (pgG now ε)){i:Int}(s:Sat h (GA g a p q r data aQ now ε::S)):
  Call ⟨Tryz.prog,told⟩ 155 [.ptr g 0,.int .i64 i] h λv h'=>(v=.int .i64 9/\X6 N g a p q r data aQ dd S h')\/∃ah aJ,lv ah/\sm ε ah/\NW N aJ/\aJ.length<=now.length+1/\Sat h' (GA g a p q r data aQ aJ ah::S) /\
   ((¬(2<=i/\i<N/\bt M i.toNat=true)/\v=.int .i64 18/\aJ=now)\/(2<=i/\i<N/\bt M i.toNat=true/\v=.int .i64 0/\fT N R (I7 M i.toNat) (pgG aJ ah)/\∀m,m≠1->pgG aJ ah m=pgG now ε m)):=by
 obtain⟨ex,tc⟩:=hp.head;have wB:=hp.n1;have qp:=hp.n2;refine Call.of_wp (hT.free _ U) Tryz.func155 U U (zK 7 U (zo U (oz U (mki_of jH U)) (zc U (Gy hT (hM.gr hw) b_ (by omega) tc hp.rl s) ?_)));rintro v h (⟨dz,rfl,s,hd⟩|⟨u,dz,rfl,kD,ej,s⟩)
 .skip;refine zk 9 U (WP.block (zK 3 U (zB U aE (by decide) ?_)));exact zk 8 U (WP.ret ⟨aa,_,U,.inl ⟨U,dz,now,hw,s,hd⟩⟩)
 have u7:fT N R M (pgG now dz):=by rw[hM.pgG ej];exact hp
 refine zk 9 U (WP.block (zK 3 U (zC U aE (U) (zk 7 U (zc U (Cw hT (by omega) (by omega)) ?_)))));rintro v h' ⟨rfl,rfl⟩;by_cases jF:i<2
 .skip;refine zB U aK (by grind) ?_;exact zk 12 U (WP.ret ⟨aa,_,U,.inr ⟨dz,now,kD,ej,hw,rK _,s.drop,.inl ⟨by omega,U,U⟩⟩⟩)
 .skip;refine zC U aK (by grind) ?_;refine zk 3 U ?_;by_cases GC:(N:Int)<=i
  .skip;refine zB U j5 (by grind) ?_;exact zk 8 U (WP.ret ⟨aa,_,U,.inr ⟨dz,now,kD,ej,hw,rK _,s.drop,.inl ⟨by omega,U,U⟩⟩⟩)
  .skip;refine zC U j5 (by grind) ?_;obtain⟨k,rfl⟩:∃k:Nat,i=k:=⟨i.toNat,by omega⟩;refine zk 2 U (zv (zj U (WP.skip (zg U (zm U (zo U (oz U (mki_of jH U)) (zm U (zc U (abC (i:=k) hT (hM.gr hw) kD (by omega) u7 (by omega) (s.ae [1])) ?_))))))));rintro v h (⟨ij,rfl,s,hd⟩|⟨ij,rfl,nY,jZ,s⟩)
   .skip;refine zk 7 U (WP.block (zK 3 U (zB U aE (by decide) ?_)));exact zk 8 U (WP.ret ⟨aa,_,U,.inl ⟨U,ij,now,hw,s.del 1,hd⟩⟩)
   have Ba:fT N R M (pgG now ij):=by rw[hM.pgG jZ];exact u7
   refine zk 7 U (WP.block (zK 3 U (zC U aE (U) (zk 6 U (zo U (eo U U) (zk 2 U ?_))))));cases hb:bt M k with
   |false =>
    exact zK 5 U (WP.ret ⟨aa,_,U,.inr ⟨ij,now,nY,hM.tr ej jZ,hw,rK _,s.del 1,.inl ⟨λ⟨_,_,q⟩=>(by grind),U,U⟩⟩⟩)
   |true =>
    refine zj U (WP.skip (zg U (zk 2 U (zc U (Tj (bl:=false) hT hM nY hw Ba (i:=k) (by omega) (by omega) s) ?_))));rintro v h (⟨rfl,kQ,I,zV,s,hd⟩|⟨kQ,I,rfl,xF,r9,zV,hl3,hp3,ho3,s⟩)
    .skip;exact zk 2 U (WP.ret ⟨aa,_,U,.inl ⟨U,kQ,I,zV,s.del 1,hd⟩⟩)
    refine zk 2 U (WP.ret ⟨aa,_,U,?_⟩);have hp3:fT N R (I7 M k) (pgG I kQ):=hp3;exact .inr ⟨kQ,I,xF,hM.tr (hM.tr ej jZ) r9,zV,hl3,s.del 1,.inr ⟨by omega,by omega,by grind,U,by grind,λm hm=>by rw[ho3 m hm,hM.pgG jZ,hM.pgG ej]⟩⟩
theorem Tl (hT:W told)(hB:B<=2000)(I:EI N B ε)(hw:NW N now)(hp:fT N R M (pgG now ε)){i:Int}(s:Sat h (GA g a p q r data aQ now ε::S)):
  Call ⟨Tryz.prog,told⟩ 155 [.ptr g 0,.int .i64 i] h λv h'=>∃ah aJ,EI N B ah/\Sm N ε ah/\NW N aJ/\aJ.length<=now.length+1/\Sat h' (GA g a p q r data aQ aJ ah::S) /\
   ((¬(2<=i/\i<N/\bt M i.toNat=true)/\v=.int .i64 18/\aJ=now)\/(2<=i/\i<N/\bt M i.toNat=true/\v=.int .i64 0/\fT N R (I7 M i.toNat) (pgG aJ ah)/\∀m,m≠1->pgG aJ ah m=pgG now ε m)) :=
 (ZI hT (Mo.live hT hB) I hw hp s).mono λ_ _ k=>k.resolve_left λ⟨_,_,_,_,_,q⟩=>q
end
def sdep : Code->Nat
 |.seq a b=>1+max (sdep a) (sdep b)
 |_=>1
def WPd (C:gN)(ax:Nat)(code:Code)(E:List (Nat×V))(h:H)(d:sD)(Q:Ex->List (Nat×V)->H->sD->Prop): Prop :=
 ∀env,mc env E->∃N0 ex I h' E' d',(∀N m,N0<=N->sdep code<=m->evTop C N m code ⟨env,ax,h⟩ d=some (ex,⟨I,ax,h'⟩,d'))/\mc I E'/\Q ex E' h' d'
section
variable {ax:Nat} {h:H} {Q:Ex->List (Nat×V)->H->sD->Prop}
def noDef : List Oper->Bool
 |[]=>true
 |o::l=>(match o.op with
  |.defer _=>false
  |_=>true)&&noDef l
def noDefC : Code->Bool
 |.seq a b=>noDefC a&&noDefC b
 |.region _ ops false=>noDef ops.toList
 |_=>true
theorem Tm {self:Self}{L:List Oper}: ∀ {l:List Oper} {s s':St},noDef l=true->evOps C self L l s=some s'->evOpsD C self L l s d=some (s',d):=by
 intro l;induction l<;>grind[evOps,noDef,evOpsD]
theorem evTop_of : ∀ {code:Code} {n:Nat} {s:St} {ex:Ex} {s':St} {d:sD},noDefC code=true->ev C n code s=some (ex,s')->∀N m,n<=N->sdep code<=m->evTop C N m code s d=some (ex,s',d):=by
 have leaf:∀ {code:Code} {n:Nat} {s:St} {ex:Ex} {s':St} {d:sD} {N m:Nat},(∀m,evTop C N (m+1) code s d=match ev C N code s with
   |some (ex,s')=>some (ex,s',d)
   |none=>none)->ev C n code s=some (ex,s')->n<=N->1<=m->evTop C N m code s d=some (ex,s',d):=λ{code n s ex s' d N m} he hr I hm=>by
  obtain⟨k,rfl⟩:∃k,m=k+1:=⟨m-1,by omega⟩;rw[he,iM I _ _ _ hr]
 intro code;induction code with
 |seq a b iha ihb =>
  intro n s ex s' d hn hr N m I hm;simp only[noDefC,bV] at hn;simp only[sdep] at hm;obtain⟨k,rfl⟩:∃k,m=k+1:=⟨m-1,by omega⟩;cases n with
  |zero=>cases hr
  |succ n =>
   rw[jT] at hr;simp only[evStep] at hr;cases ha:ev C n a s with
   |none=>grind
   |some r =>
    obtain⟨e1,s1⟩:=r;have h1:=iha (d:=d) hn.1 ha N k (by omega) (by omega);simp only[evTop,h1];rw[ha] at hr;cases e1 with
    |normal=>exact ihb hn.2 hr N k (by omega) (by omega)
    |exit i=>grind
    |ret=>grind
 |region id ops draw =>
  intro n s ex s' d hn hr N m I hm;cases draw with
  |true=>exact leaf (λm=>U) hr I hm
  |false =>
   obtain⟨k,rfl⟩:∃k,m=k+1:=⟨m-1,by have:1<=m:=hm;omega⟩;cases n with
   |zero=>cases hr
   |succ n =>
    rw[jT] at hr;simp only[evStep,aS] at hr;cases ho:evOps C (ev C n) ops.toList ops.toList s with
    |none=>grind
    |some s1 =>
     rw[ho] at hr;obtain⟨rfl,rfl⟩:=hr;have h2:=sB (iM (C:=C) (show n<=N by omega)) _ _ _ ho;simp only[evTop,Tm (d:=d) hn h2]
 |_=>intro n s ex s' d hn hr N m I hm;exact leaf (λm=>U) hr I hm
theorem WPd.of_wp (hn:noDefC code=true)(hw:WP C ax code E h λex E' h'=>Q ex E' h' d): WPd C ax code E h d Q:=by
 intro env hE;obtain⟨N,ex,I,h',E',h1,h2,h3⟩:=hw env hE;exact⟨N,ex,I,h',E',d,λM m hM hm=>evTop_of hn h1 M m hM hm,h2,h3⟩
theorem WPd.seq {a b:Code}(hw:WPd C ax a E h d λex E' h' d'=>match ex with
  |.normal=>WPd C ax b E' h' d' Q
  |ex=>Q ex E' h' d'): WPd C ax (.seq a b) E h d Q:=by
 intro env hE;obtain⟨N,ex,I,h',E',d',h1,h2,h3⟩:=hw env hE;have one:∀M m,N<=M->sdep (.seq a b)<=m+1->evTop C M m a ⟨env,ax,h⟩ d=some (ex,⟨I,ax,h'⟩,d'):=λM m hM hm=>h1 M m hM (by simp only[sdep] at hm;omega);have out:(match ex with|.normal=>False|_=>True)->Q ex E' h' d'->∃N0 ex I h' E' d',(∀N m,N0<=N->sdep (.seq a b)<=m->evTop C N m (.seq a b) ⟨env,ax,h⟩ d=some (ex,⟨I,ax,h'⟩,d'))/\mc I E'/\Q ex E' h' d':=λhx hq=>by
  refine⟨N,ex,I,h',E',d',λM m hM hm => ?_,h2,hq⟩;obtain⟨k,rfl⟩:∃k,m=k+1:=⟨m-1,by simp only[sdep] at hm;omega⟩<;>grind[evTop]
 cases ex with
 |normal =>
  obtain⟨K,sC,Km,It,E2,d2,g1,g2,g3⟩:=h3 I h2;refine⟨max N K,sC,Km,It,E2,d2,λM m hM hm => ?_,g2,g3⟩;obtain⟨k,rfl⟩:∃k,m=k+1:=⟨m-1,by simp only[sdep] at hm;omega⟩<;>grind[sdep,evTop]
 |exit i=>simp_all
 |ret=>simp_all
theorem WPd.defer {ops:Array Oper}{I o2:Oper}{x1 y:Operand}{cl:Go.Call}{v:V}{first cap:List V}(hL:ops.toList=[I,o2])(g1:I.guard=none)(d1:I.dst=some k)(p1:I.op=.move x1)(hk:Nat.blt k ax=true)(hx:bE E x1=some v)
 (g2:o2.guard=none)(d2:o2.dst=none)(p2:o2.op=.defer cl)(hc:cl.callee=.value y)(hy:bE ((k,v)::E) y=some (.fn (.func g) first cap))(ha:lookArgs ((k,v)::E) cl.args.toList=some args)
 (hq:Q .normal ((k,v)::E) h ((g,first++args,cap)::d)): WPd C ax (.region id ops false) E h d Q:=by
 intro env hE;have zR:mc (env.set k (some v)) ((k,v)::E):=hE.set _ _;refine⟨0,.normal,env.set k (some v),h,(k,v)::E,(g,first++args,cap)::d,λM m _ hm => ?_,zR,hq⟩
 obtain⟨j,rfl⟩:∃j,m=j+1:=⟨m-1,by have:1<=m:=hm;omega⟩;have e1:evOpsD C (ev C M) [I,o2] [I,o2] ⟨env,ax,h⟩ d=some (⟨env.set k (some v),ax,h⟩,(g,first++args,cap)::d):=by
  have J_:wantedV [I,o2] env I=true:=by simp[wantedV,g1]
  have he1:evOp C (ev C M) env h I=some (v,h):=by simp only[evOp,p1,cF hE hx];rfl
  have uR:St.put ⟨env,ax,h⟩ I.dst v h=some ⟨env.set k (some v),ax,h⟩:=by grind[St.put]
  rw[evOpsD];grind[evOpsD,oN,cF]
 simp only[evTop,hL,e1]
theorem toldDefer_do {f:FuncId}{R:V->H->Prop}(hf:C.P.funcs[f]?=some fn)(hb:fn.body=some code)(hl:Nat.blt fn.ntmps args.length=false)(hdp:sdep code<=1000)
 (hw:WPd C fn.ntmps code (argE args 0) h [] λex E' h' d'=>(match ex with|.exit _=>False|_=>True)/\∃I v,(∃N0,∀N,N0<=N->runDefs C N d' h'=some I)/\resLE C.P E' I fn.results.toList=some v/\R v I):
  ∃v I,(∃N0,∀N,N0<=N->toldDefer C N f args h=some (v,I))/\R v I:=by
 obtain⟨N0,ex,xU,h',E',d',h1,I,hx,h3,v,⟨N1,hr⟩,uM,hR⟩:=hw _ (Ny args);refine⟨v,h3,⟨max N0 N1,λN hN => ?_⟩,hR⟩;have e1:=h1 N 1000 (by omega) hdp;have e3:resOf C.P ⟨xU,fn.ntmps,h3⟩ fn.results.toList=some v:=by
  unfold resLE at uM;cases hm:mapO (resE C.P E' h3) fn.results.toList with
  |none=>grind
  |some vs =>
   have D3:=Nx (P:=C.P) (s:=⟨xU,fn.ntmps,h3⟩) I hm;grind[resOf]
 unfold toldDefer;simp only[hf,hb,hl,aS,e1];cases ex with
 |exit i=>grind
 |normal=>grind
 |ret=>grind
theorem M8 {g:FuncId}{v:V}{h2:H}(ht:C.told g=none)(hf:C.P.funcs[g]?=some fn)(hb:fn.body=some code)(hq:quietParts code=none)(hc:iV C g args h v h2): ∃I,∀N,I<=N->runDefs C N [(g,args,[])] h=some h2:=by
 obtain⟨I,h0⟩:=hc;refine⟨I,λN hN => ?_⟩;have e:=sA (iM (C:=C) hN) h0;grind[runDefs,defCall]
end
def LG (f:FuncId)(args:List V)(h:H)(r:V×H): Prop:=∃I,∀N,I<=N->toldDefer CB N f args h=some r
theorem Call.defer {told:cu}{f:FuncId}{h:H}{R:V->H->Prop}(ht:told f=some (qM Tryz.prog f (LG f)))(hf:Tryz.prog.funcs[f]?=some fn)(hb:fn.body.isSome=true)
 (hd:∃v I,(∃N0,∀N,N0<=N->toldDefer CB N f args h=some (v,I))/\R v I): Call ⟨Tryz.prog,told⟩ f args h R:=by
 obtain⟨v,I,⟨N0,h0⟩,hR⟩:=hd;obtain⟨r,e1,N1,h1⟩:=xm (P:=Tryz.prog) (f:=f) (mu:=LG f) (args:=args) (h:=h) (r:=(v,I)) ⟨N0,h0⟩ (λc w uL hw=>Kp (C:=CB) Ck AD (h0 N0 (aH _)) uL hw);have:r=(v,I):=by
  have a:=h0 (max N0 N1) (by omega);grind
 subst this;exact⟨v,I,iV.told ht hf hb e1,hR⟩
abbrev Oy := List V->H->V×H->Prop
noncomputable def toldP (l:List (Nat×Oy))(base:Nat->Option (List V->H->Option (V×H)))(f:Nat): Option (List V->H->Option (V×H)) :=
 match l with
 |[]=>base f
 |x::l=>cond (Nat.beq f x.1) (some (qM Tryz.prog x.1 x.2)) (toldP l base f)
theorem ZJ {l:List (Nat×Oy)}(h:∀x∈l,inL KK x.1=true/\x.1≠211/\x.1≠61): W (toldP l ue):=by
 induction l with
 |nil=>exact W.base
 |cons x l I =>
  have I:=I λy hy=>h y (bw _ hy);obtain⟨h1,h2,h3⟩:=h x a_;refine⟨λf hf => ?_,?_,?_⟩
  .have:f≠x.1:=λe=>by subst e;rw[h1] at hf;cases hf
   simp only[toldP,fO this,aS];exact I.free f hf
  .simp only[toldP,fO (jR h2),aS];exact I.more
  .simp only[toldP,fO (jR h3),aS];exact I.sorted
theorem V7 {l : List (Nat × Oy)} (h : ∀ x ∈ l, ∃ fn, Tryz.prog.funcs[x.1]? = some fn ∧ fn.body.isSome = true ∧ (fn.name == "runtime.NumGoroutine") = false) : iU ⟨Tryz.prog, toldP l ue⟩ := by
 induction l with
 | nil => exact AD
 | cons x l ih =>
  have ih := ih fun y hy => h y (bw _ hy)
  intro f g I
  simp only [toldP] at I
  by_cases h1 : f = x.1
  ·subst h1
   rw [qT rfl, ag] at I
   simp only [aA] at I
   subst I
   exact SE (h x a_)
  ·rw [fO h1, aS] at I
   exact ih f g I
section
variable {c:Ctx} {σ:H} {w:World}
set_option maxRecDepth 100000 in
theorem Tn {x y:Value}{a:List Nat}(I:∀z∈a,z<256)(hb:∀z∈b,z<256)
 (hx:(Extern.Bytes.bytesOf x).run Tryz.prog w=.ok ⟨(a.map UInt8.ofNat).toArray⟩ w)(hy:(Extern.Bytes.bytesOf y).run Tryz.prog w=.ok ⟨(b.map UInt8.ofNat).toArray⟩ w):
  Calls Tryz.prog 116 #[x,y] w λe w'=>e=.returned (.int .i64 (cmpN a b))/\w'=w:=by
 go_enter Lq,Tryz.ntmps116
 go_wp2
 rw[run_callFunc_extern Tryz.func184 (by kernel_rfl) (by kernel_rfl) (by kernel_rfl) (e:=Extern.BytealgCompare.compare) (by kernel_rfl),ZD I hb hx hy];simp only[Result.andThen];rw[Oper.upon_value]
 go_wp2
 go_ret
 exact⟨U,U⟩
theorem GD {x:V}{l:List Nat}(h:Rel c σ w)(hw:wf c x)(hv:View σ x l): (Extern.Bytes.bytesOf (conc c x)).run Tryz.prog w=.ok ⟨(l.map UInt8.ofNat).toArray⟩ w:=by
 have hl:=hv.1;have e:bytesOf (ofBytes l)=some l:=Gm hl;rcases hv.2 with⟨rfl|⟨a,rfl⟩,rfl⟩|⟨id,off,cap,n,cs,st,rfl,_⟩
 .simp only[conc];rfl
 .simp only[conc];rfl
 .exact(M7 (P:=Tryz.prog) h hw (by simp only[byteList,hv.rdN.2,e])).2
end
def LH : Oy:=λargs h r=>∃x y a b,args=[x,y]/\View h x a/\View h y b/\r=(.int .i64 (cmpN a b),h)
structure WB (told:cu): Prop where
 w:W told
 cmp:told 116=some (qM Tryz.prog 116 LH)
theorem M9 : ∀ {a b:List Nat},ofBytes a=ofBytes b->a=b:=by
 intro a;induction a with
 |nil=>intro b h;cases b with
  |nil=>rfl
  |cons y b=>cases h
 |cons x a I =>
  intro b h;cases b with
  |nil=>cases h
  |cons y b =>
   simp only[ofBytes,hU,List.cons.injEq,V.int.injEq,true_and] at h;rw[I h.2,Int.ofNat.inj h.1]
theorem View.uniq {h:H}{x:V}{a:List Nat}(h1:View h x a)(I:View h x b): a=b:=by
 rcases h1.2 with⟨rfl|⟨z,rfl⟩,rfl⟩|⟨id,off,cap,n,cs,st,rfl,_⟩
 .rcases I.2 with⟨_,rfl⟩|⟨id,off,cap,n,cs,st,e,_⟩
  .rfl
  .cases e
 .rcases I.2 with⟨_,rfl⟩|⟨id,off,cap,n,cs,st,e,_⟩
  .rfl
  .cases e
 .have e1:=h1.rdN;have e2:=I.rdN;rw[e1.2] at e2;exact M9 (bB e2.2)
section
variable {told:cu} {h:H} {a k:List Nat}
theorem qn (hT:WB told){xv:V}(hx:View h xv a)(hy:View h y c): Call ⟨Tryz.prog,told⟩ 116 [xv,y] h λr h'=>r=.int .i64 (cmpN a c)/\h'=h:=by
 obtain⟨r,h3,x2,y2,a2,c2,e1,v1,v2,rfl⟩:=xm (P:=Tryz.prog) (f:=116) (mu:=LH) (args:=[xv,y]) (h:=h) (r:=(.int .i64 (cmpN a c),h)) ⟨xv,y,a,c,U,hx,hy,U⟩ λcx w I hw=>by
  unfold kJ;refine Calls.mono (Tn hx.1 hy.1 (GD I (hw xv (by simp)) hx) (GD I (hw y (by simp)) hy)) ?_;rintro e w' ⟨rfl,rfl⟩;exact⟨cx,by simp only[conc],by simp only[wf],I,dA.refl cx w'⟩
 injection e1 with e1 e2;injection e2 with e2 _;subst e1 e2;rw[hx.uniq v1,hy.uniq v2];exact⟨_,_,iV.told hT.cmp Lq U h3,U,U⟩
theorem js.get {e d:En}(h:js lo hi es)(h1:es[i]?=some e)(h2:es[j]?=some d)(I:i<j): e.1<d.1:=by
 have:=List.pairwise_iff_getElem.1 h.jY i j (List.getElem?_eq_some_iff.1 h1).1 (List.getElem?_eq_some_iff.1 h2).1 I
 rwa [(List.getElem?_eq_some_iff.1 h1).2,(List.getElem?_eq_some_iff.1 h2).2] at this
theorem vV {e:En}(h:js lo hi es)(he:es[i]?=some e): (es.map eE)[i]?=some (eE e)/\iT 0 (eE e)/\(eE e).length<=225:=by
 obtain⟨s1,s2,I⟩:=h.sz e (aI he);refine⟨by rw[kR,he];rfl,?_,?_⟩
 .show 1<=(eE e).length/\1+(eE e).getD 0 0<=(eE e).length;exact⟨by simp[eE],by simp[eE];omega⟩
 .simp[eE];omega
noncomputable def lsL : Code:=cX [1,1,0,0,0] ((Tryz.f46.body).getD .skip)
theorem Qq (hT:WB told)(hX:cy X (cE kv k))(hN:js lo hi es)(hlen:es.length<=512): ∀(j a z:Nat) (h:H) (E:List (Nat×V)) (Q:Ex->List (Nat×V)->H->Prop),z-a<=j->a<=z->z<=es.length ->
  (∀i e,es[i]?=some e->i<a->e.1<k)->(∀i e,es[i]?=some e->z<=i->k<=e.1)->Sat h (aW x n 0 b (es.map eE)::X::S)->Has E [(0,.ptr x 0),(1,kv),(6,.int .i64 (a:Int)),(7,.int .i64 (z:Int))] ->
  (∀E' h' i,Ec es k i->Has E' [(0,.ptr x 0),(1,kv),(6,.int .i64 (i:Int))]->Sat h' (aW x n 0 b (es.map eE)::X::S)->Q (.exit 0) E' h')->WP ⟨Tryz.prog,told⟩ 45 (.loop lsL) E h Q:=by
 have hW:=hT.w;intro j;induction j with
 |zero =>
  intro a z h E Q hj XG hz h1 h2 s hE hq;have:a=z:=by omega
  subst this;refine WP.loop (WP.has hE (zK 5 U (zC U aK (by simp) ?_)));exact zk 2 U (WP.exit (hq _ _ a ⟨hz,h1,h2⟩ ⟨U,U,U,aa⟩ s))
 |succ j ih =>
  intro a z h E Q hj XG hz h1 h2 s hE hq;by_cases V8:a=z
  .subst V8;refine WP.loop (WP.has hE (zK 5 U (zC U aK (by simp) ?_)));exact zk 2 U (WP.exit (hq _ _ a ⟨hz,h1,h2⟩ ⟨U,U,U,aa⟩ s))
  .obtain⟨m,hm⟩:∃m,m=(a+z)/2:=⟨_,U⟩;obtain⟨e,he⟩:∃e,es[m]?=some e:=⟨_,aF (by omega)⟩;obtain⟨c1,c2,c3⟩:=vV hN he;refine WP.loop (WP.has hE (zK 5 U (zB U aK (by simp;omega) ?_)));refine zk 3 U (WP.block (zK 4 U (zo U (aq (r:=.int .i64 ((a+z:Nat):Int)) U U (by rw[show((a+z:Nat):Int)=(a:Int)+(z:Int) by omega];exact aM ak)) ?_)));refine zo U (aq (r:=.int .i64 (m:Int)) U U (by rw[hm];exact xE (b:=2) (by decide) (by omega))) ?_;refine zk 6 U (zc U (oR hW c1 c2 (by decide) c3 s) ?_);intro kv2 h s;rw[r7] at s;refine zm U (zc U (qn hT (s.aD (k:=0) U (bC _ _)) (s.aD (k:=2) U hX)) ?_);rintro r h' ⟨rfl,rfl⟩;by_cases I:e.1<k
   .skip;refine zB U aK (decide_eq_true ((tU _ _).1.2 I)) (zk 4 U (zb U (by exact aM ak) ?_));refine za U (zv ?_);refine ih (m+1) z _ _ Q (by omega) (by omega) hz (λi d hd hi => ?_) h2 s.drop ⟨U,U,U,U,aa⟩ hq;by_cases q:i=m
    .subst q;rw[he] at hd;obtain rfl:=bB hd;exact I
    .have:=hN.get hd he (by omega);grind
   .skip;refine zh U (aq U U aK) (decide_eq_false (λq=>I ((tU _ _).1.1 q))) (zv (zj U (zr U (zk 2 U (zv ?_)))));refine ih a m _ _ Q (by omega) (by omega) (by omega) h1 (λi d hd hi => ?_) s.drop ⟨U,U,U,U,aa⟩ hq;by_cases q:i=m
    .subst q;rw[he] at hd;obtain rfl:=bB hd;exact List.not_lt.1 I
    .have:=hN.get he hd (by omega);grind
theorem AP (hT:WB told)(hX:cy X (cE kv k))(hN:js lo hi es)(hlen:es.length<=512)(s:Sat h (aW x n 0 b (es.map eE)::X::S)):
  Call ⟨Tryz.prog,told⟩ 46 [.ptr x 0,kv] h λv h'=>∃i:Nat,v=.aV [.int .i64 (i:Int),.bool (sameE es k i)]/\Ec es k i/\Sat h' (aW x n 0 b (es.map eE)::X::S):=by
 have hW:=hT.w
 have s0:=s
 obtain⟨bv,cv,us,s⟩:=aT.1 s
 refine Call.of_wp (hW.free _ U) Tryz.func46 U U (zK 6 U ?_)
 have z0:=s
 refine WP.drawn [af,af,af,af,af,af,af] U (by kernel_rfl) (by kernel_rfl) ?_
 refine zM U (zN U (zF U (cM _ _) (zL U (s.ld (k:=0) U gu U) (zO U (aC U U U (gR aO s)) ?_))))
 rw[cj]
 refine zA U (zA U ?_)
 refine aB.nil ⟨⟨aa,aa,aa,aa,aa,aa,aa,aa⟩,?_⟩
 refine zw (WP.block ?_)
 refine Qq hT hX hN hlen es.length 0 es.length _ _ _ (by omega) (gG _) (aH _) (λi e _ h=>by omega) (λi e h1 h2=>by have:=(List.getElem?_eq_some_iff.1 h1).1;omega) s0 ⟨U,U,U,U,aa⟩ λE' h' i hL dY s' => ?_
 have s:=s'
 have afx:=hL.le
 refine WP.has dY ?_
 have s0:=s
 obtain⟨bv,cv,us,s⟩:=aT.1 s
 refine zK 6 U (zY s 0 cM gu U (zo U (aC U U U (gR aO s)) ?_))
 rw[cj]
 by_cases hi:i<es.length
 .obtain⟨e,he⟩:∃e,es[i]?=some e:=⟨_,aF hi⟩
  obtain⟨c1,c2,c3⟩:=vV hN he
  have I:sameE es k i=decide (e.1=k):=by unfold sameE;rw[he]
  refine zB U aK (by simp;omega) ?_
  refine zk 3 U (zc U (oR hW c1 c2 (by decide) c3 s0) ?_)
  intro kv2 h s
  rw[r7] at s
  refine zm U (zc U (I6 hW (s.aD (k:=0) U (bC _ _)) (s.aD (k:=2) U hX)) ?_)
  rintro r h' ⟨rfl,rfl⟩
  exact zk 4 U (WP.ret ⟨aa,_,U,i,by rw[I],hL,s.drop⟩)
 .have I:sameE es k i=false:=by unfold sameE;rw[rB (by omega)]
  refine zC U aK (by simp;omega) ?_
  exact zk 10 U (WP.ret ⟨aa,_,U,i,by rw[I],hL,s0⟩)
noncomputable def wyL : Code:=cX [1,1,0,0,0] ((Tryz.f76.body).getD .skip)
theorem V9 (hT:WB told)(hX:cy X (cE kv k))(hS:Sep lo hi ks)(hlen:ks.length<=512)(wD:1<=l)(iJ:l<=64): ∀(j a z:Nat) (h:H) (E:List (Nat×V)) (Q:Ex->List (Nat×V)->H->Prop),z-a<=j->a<=z->z<=ks.length->1<=a ->
  (∀i m,ks[i]?=some m->1<=i->i<a->m.key<=k)->(∀i m,ks[i]?=some m->z<=i->k<m.key)->Sat h (aW x n l b (bI ks)::X::S)->Has E [(0,.ptr x 0),(1,kv),(5,.int .i64 (a:Int)),(6,.int .i64 (z:Int))] ->
  (∀E' h' i,Way ks k i->Has E' [(5,.int .i64 ((i+1:Nat):Int))]->Sat h' (aW x n l b (bI ks)::X::S)->Q (.exit 0) E' h')->WP ⟨Tryz.prog,told⟩ 31 (.loop wyL) E h Q:=by
 have hW:=hT.w;have fin:∀(a:Nat),1<=a->a<=ks.length->(∀i m,ks[i]?=some m->1<=i->i<a->m.key<=k)->(∀i m,ks[i]?=some m->a<=i->k<m.key)->Way ks k (a-1):=λa q1 q2 q3 q4 =>
  ⟨by omega,λj m hm a1 a2=>q3 j m hm a1 (by omega),λj m hm a1=>q4 j m hm (by omega)⟩
 intro j;induction j with
 |zero =>
  intro a z h E Q hj XG hz ha h1 h2 s hE hq;have:a=z:=by omega
  subst this;refine WP.loop (WP.has hE (zK 5 U (zC U aK (by simp) ?_)));exact zk 2 U (WP.exit (hq _ _ (a-1) (fin a ha hz h1 h2) ⟨by rw[show a-1+1=a by omega];rfl,aa⟩ s))
 |succ j ih =>
  intro a z h E Q hj XG hz ha h1 h2 s hE hq;by_cases V8:a=z
  .subst V8;refine WP.loop (WP.has hE (zK 5 U (zC U aK (by simp) ?_)));exact zk 2 U (WP.exit (hq _ _ (a-1) (fin a ha hz h1 h2) ⟨by rw[show a-1+1=a by omega];rfl,aa⟩ s))
  .obtain⟨m,hm⟩:∃m,m=(a+z)/2:=⟨_,U⟩;obtain⟨e,he⟩:∃e,ks[m]?=some e:=⟨_,aF (by omega)⟩;have c1:=gU he;have h4:=cO 4 e.pg;have fY:=hS.len e (aI he);have c3:(ff e.pg e.key).length<=225:=by rw[ff,aN,h4];omega
   have c2:iT l (ff e.pg e.key):=by rw[iT,ai (by omega),ff,aN,h4];omega
   have pE:fM l (ff e.pg e.key)=e.key:=by
    obtain⟨l',rfl⟩:∃l',l=l'+1:=⟨l-1,by omega⟩;exact ql
   refine WP.loop (WP.has hE (zK 5 U (zB U aK (by simp;omega) ?_)));refine zk 3 U (WP.block (zK 4 U (zo U (aq (r:=.int .i64 ((a+z:Nat):Int)) U U (by rw[show((a+z:Nat):Int)=(a:Int)+(z:Int) by omega];exact aM ak)) ?_)));refine zo U (aq (r:=.int .i64 (m:Int)) U U (by rw[hm];exact xE (b:=2) (by decide) (by omega))) ?_;refine zk 6 U (zc U (oR hW c1 c2 iJ c3 s) ?_);intro kv2 h s;rw[pE] at s;refine zm U (zc U (qn hT (s.aD (k:=0) U (bC _ _)) (s.aD (k:=2) U hX)) ?_);rintro r h' ⟨rfl,rfl⟩;by_cases hle:e.key<=k
   .skip;refine zB U wo (decide_eq_true ((tU _ _).2.2 hle)) (zk 4 U (zb U (by exact aM ak) ?_));refine za U (zv ?_);refine ih (m+1) z _ _ Q (by omega) (by omega) hz (by omega) (λi d I a1 a2 => ?_) h2 s.drop ⟨U,U,U,U,aa⟩ hq;by_cases q:i=m
    .subst q;rw[he] at I;obtain rfl:=bB I;exact hle
    .have:=hS.jY i m d e I he a1 (by omega);grind
   .skip;refine zh U (aq U U wo) (decide_eq_false (λq=>hle ((tU _ _).2.1 q))) (zv (zj U (zr U (zk 2 U (zv ?_)))));refine ih a m _ _ Q (by omega) (by omega) (by omega) ha h1 (λi d I a1 => ?_) s.drop ⟨U,U,U,U,aa⟩ hq;by_cases q:i=m
    .subst q;rw[he] at I;obtain rfl:=bB I;exact List.not_le.1 hle
    .have:=hS.jY m i e d he I (by omega) (by omega);grind
theorem abD (hT:WB told)(hX:cy X (cE kv k))(hS:Sep lo hi ks)(hlen:ks.length<=512)(wD:1<=l)(iJ:l<=64)(s:Sat h (aW x n l b (bI ks)::X::S)):
  Call ⟨Tryz.prog,told⟩ 76 [.ptr x 0,kv] h λv h'=>∃i:Nat,v=.int .i64 (i:Int)/\Way ks k i/\Sat h' (aW x n l b (bI ks)::X::S):=by
 have hW:=hT.w
 have I:1<=ks.length:=by
  rcases nq ks.length with q|q
  .exact absurd (iK q) hS.ne
  .exact q
 have s0:=s
 obtain⟨bv,cv,us,s⟩:=aT.1 s
 refine Call.of_wp (hW.free _ U) Tryz.func76 U U (zK 5 U ?_)
 have z0:=s
 refine WP.drawn [af,af,af,af,af,af,af] U (by kernel_rfl) (by kernel_rfl) ?_
 refine zM U (zN U (zF U (cM _ _) (zL U (s.ld (k:=0) U gu U) (zO U (aC U U U (gR aO s)) ?_))))
 rw[dI]
 refine zA U (zA U ?_)
 refine aB.nil ⟨⟨aa,aa,aa,aa,aa,aa,aa,aa⟩,?_⟩
 refine zw (WP.block ?_)
 refine V9 hT hX hS hlen wD iJ ks.length 1 ks.length _ _ _ (by omega) I (aH _) (aH _) (λi e _ I h2=>by omega) (λi e I h2=>by have:=(List.getElem?_eq_some_iff.1 I).1;omega) s0 ⟨U,U,U,U,aa⟩ λE' h' i hL dY s' => ?_
 have s:=s'
 have cq:=hL.lt
 refine WP.has dY (zK 3 U (zo U (aq (r:=.int .i64 (i:Int)) U U (by rw[show(i:Int)=((i+1:Nat):Int)-1 by omega];exact dM ak)) ?_))
 exact zk 2 U (WP.ret ⟨aa,_,U,i,U,hL,s⟩)
end
theorem sX (b:Nat)(e:TypeId)(fz:Nat×Nat): ∀(vs:List Value) (o:Nat) (w:World) (C:Array Value),w.heap[b]?=some (.cells C e fz)->o+vs.length<=C.size ->
  ∃C',w.setCells b o vs=World.setRow w b C' e fz/\C'.size=C.size/\∀j,C'[j]?=if o<=j/\j<o+vs.length then vs[j-o]? else C[j]?:=by
 intro vs;induction vs with
 |nil =>
  intro o w C I _;have:World.setRow w b C e fz=w:=by
   unfold World.setRow;congr 1;grind
  exact⟨C,this.symm,U,λj=>by grind⟩
 |cons v vs ih =>
  intro o w C I hl;have cq:b<w.heap.size:=(Array.getElem?_eq_some_iff.1 I).1;simp only[aX] at hl;obtain⟨C',h1,h2,h3⟩:=ih (o+1) (World.setRow w b (C.setIfInBounds o v) e fz) (C.setIfInBounds o v) (by rw[kE cq];simp) (by simp;omega);refine⟨C',?_,by rw[h2];simp,λj => ?_⟩
  .rw[World.setCells,DU I,h1,setRow_setRow]
  .rw[h3];by_cases hj:j=o
   .subst hj;rw[ai (by omega),ay (by simp),gF,GY,ay U,ay (by omega)];rfl
   .grind
theorem Cy (w:World)(C D:Array Value)(e:TypeId)(fz DS:Nat×Nat): World.setRow (w.alloc (.cells C e fz)) w.heap.size D e DS=w.alloc (.cells D e DS):=by
 unfold World.setRow World.alloc;congr 1;apply Array.ext';simp
set_option maxHeartbeats 1000000 in
theorem ZK {c:Ctx}{w:World}{h:H}{y:Nat}{cs:List V}(I:Rel c h w)(hg:h.tr.get x=some (.cells n cs false))(hy:h.tr.get y=some (.cells 1 [u] false))(SD:y≠x)(hi:i<n)(hn:n<=4096)
 (J_:wf c (.sl x 0 n (.rest 1 0))): kJ Tryz.prog 52 [.sl x 0 n (.rest 1 0),.int .i64 i,.sl y 0 1 (.exact 1)] c w (.sl h.next 0 (n+1) (.rest 1 0)) ((h.put x none).new (.cells (n+1) (dh i u cs) false)):=by
 obtain⟨hl,Fe,C,e,fz,hb,hle,hC,vY⟩:=I.obj x _ hg;obtain⟨_,hwu,D,e2,fz2,ob,afy,hD,V_⟩:=I.obj y _ hy;have vY:fz=(0,0):=vY;have V_:fz2=(0,0):=V_;subst vY V_;have hX:=I.Hq hg (by simp);have Ls:(c.ρ y).1≠(c.ρ x).1:=λhe=>SD (I.Ei hy hg he hX);have hxN:x<c.N:=I.live x _ hg;have hrs:rowSize w (c.ρ x).1=C.size:=by unfold rowSize;rw[hb]
 have Rf:c.room x 0 1=C.size-(c.ρ x).2:=by
  simp only[Ctx.room,I.zz x hxN,hrs,eH,C9]
 have v_:c.room x 0 1≠0:=by omega
 have oE:n<=c.room x 0 1:=by
  simp only[wf] at J_;exact J_.2.2
 have ea:(#[.slice (some ⟨(c.ρ x).1,(c.ρ x).2,none⟩) n (c.room x 0 1),.int .i64 i,.slice (some ⟨(c.ρ y).1,(c.ρ y).2,none⟩) 1 1]:Array Value)=([V.sl x 0 n (.rest 1 0),.int .i64 i,.sl y 0 1 (.exact 1)].map (conc c)).toArray:=by
  simp[conc]
 have gn:(cs.map (conc c)).length=n:=by simp[hl]
 have xD:∀j v,(cs.map (conc c))[j]?=some v->w.cell? ⟨(c.ρ x).1,(c.ρ x).2+j,none⟩=some v:=λj v hj=>by
  rw[kR] at hj;obtain⟨a,h1,rfl⟩:=Option.map_eq_some_iff.1 hj;simp[World.cell?,hb,hC j a h1]
 have hvi:∀j v,([conc c u])[j]?=some v->w.cell? ⟨(c.ρ y).1,(c.ρ y).2+j,none⟩=some v:=λj v hj=>by
  cases j with
  |succ j=>simp at hj
  |zero =>
   simp only[j9,aA] at hj;subst hj;have:=hD 0 u U;simp only[eH] at this ⊢;simp[World.cell?,ob,this]
 have Ot:∀v∈cs.map (conc c),v.oneCell'=true:=λv hv=>by
  obtain⟨a,h1,rfl⟩:=List.mem_map.1 hv;exact tX (Fe a h1).2
 have Ou:∀v∈[conc c u],v.oneCell'=true:=λv hv=>by
  simp only[G8] at hv;subst hv;exact tX (hwu u (by simp)).2
 have abE:∀v∈dh i u cs,wf c v/\storable v=true:=λv hv=>by
  simp only[dh,nD,gz] at hv;rcases hv with h1|rfl|h1
  .exact Fe v (iL h1)
  .exact hwu v (by simp)
  .exact Fe v (jd h1)
 have jk:n+1=(dh i u cs).length:=by rw[lu (by omega)];omega
 have uU:∀a:Addr,a.block=(c.ρ x).1\/a.block=(c.ρ y).1->w.frozen? a=false:=λa ha=>by
  unfold World.frozen?;rcases ha with ha|ha<;>rw[ha]<;>simp[hb,ob]
 have xC:(c.ρ x).1<w.heap.size:=(Array.getElem?_eq_some_iff.1 hb).1;unfold kJ;rw[<-ea];by_cases qR:n+1<=c.room x 0 1
 .refine Calls.mono (Ta (c.ρ x).1 (c.ρ x).2 n (c.room x 0 1) i (c.ρ y).1 (c.ρ y).2 1 1 (cs.map (conc c)) [conc c u] w hi (by omega) qR (by omega) Ls gn U xD
   (λj hj=>by simp[World.cell?,hb];omega) (λj _=>uU _ (.inl U)) hvi Ot Ou e2 e D.size C.size (by simp[World.shape?,ob]) (by simp[World.shape?,hb]) (by omega) (uU _ (.inr U)) (uU _ (.inr U))) ?_
  rintro r w' ⟨rfl,rfl⟩;obtain⟨C1,a1,a2,a3⟩:=sX (c.ρ x).1 e (0,0) ((cs.map (conc c)).drop i) ((c.ρ x).2+(i+1)) w.drew C hb (by simp;omega);obtain⟨C2,b1,b2,b3⟩:=sX (c.ρ x).1 e (0,0) [conc c u] ((c.ρ x).2+i) (World.setRow w.drew (c.ρ x).1 C1 e (0,0)) C1 (by rw[kE (by exact xC)];simp) (by simp;omega);rw[a1,b1,setRow_setRow];have ha:=I.drew.aap (off:=0) (m:=n+1) (cs':=dh i u cs) (C':=C2) (e:=e) hg hb (by omega) jk (by omega) abE (by omega) (λj v hj=>by
   rw[mZ] at hj;rw[eH,b3,a3];by_cases h1:j<i
   .rw[ay h1] at hj;rw[ai (by simp;omega),ai (by omega)];exact hC j v hj
   .rw[ai h1] at hj;by_cases h2:j=i
    .rw[ay h2] at hj;cases hj
     subst h2;rw[ay (by simp),gF];rfl
    .rw[ai h2] at hj;have IN:j-1<cs.length:=(List.getElem?_eq_some_iff.1 hj).1;rw[ai (by simp;omega),ay (by simp;omega),fB,kR,show i+((c.ρ x).2+j-((c.ρ x).2+(i+1)))=j-1 by omega,hj];rfl)
  have abF:(c.at x 0).room h.next 0 1=c.room x 0 1:=by simp[Ctx.room,Ctx.at,I.next]
  refine⟨_,?_,?_,ha.1,(dA.drew c w).trans ha.2⟩
  .simp only[conc,abF,v_,gP];simp[Ctx.at,I.next]
  .simp only[wf,abF];exact⟨by simp[Ctx.at,I.next],by omega,qR⟩
 .refine Calls.mono (VY (c.ρ x).1 (c.ρ x).2 n (c.room x 0 1) i (c.ρ y).1 (c.ρ y).2 1 1 (cs.map (conc c)) [conc c u] w hi (by omega) oE (by omega) (by omega) gn U xD hvi Ot Ou) ?_;rintro r w' ⟨G,X8,hG,rfl,hRS,rfl,hR⟩;obtain⟨C1,a1,a2,a3⟩:=sX w.heap.size 29 (0,0) [conc c u] i (w.drew.alloc (.cells X8 29)) X8 ((iH w.drew _ w.heap.size).trans (if_pos U)) (by simp;omega);have e1:World.setRow (w.drew.alloc (.cells X8 29)) w.heap.size C1 29 (0,0)=w.drew.alloc (.cells C1 29):=Cy w.drew X8 C1 _ _ _;have e2:(w.drew.alloc (.cells C1 29)).drew=w.drew.drew.alloc (.cells C1 29):=rfl;rw[a1,e1,e2];obtain⟨C2,b1,b2,b3⟩:=sX w.heap.size 29 (0,0) ((cs.map (conc c)).drop i) (i+1) (w.drew.drew.alloc (.cells C1 29)) C1 ((iH w.drew.drew _ w.heap.size).trans (if_pos U)) (by simp;omega);have e3:World.setRow (w.drew.drew.alloc (.cells C1 29)) w.heap.size C2 29 (0,0)=w.drew.drew.alloc (.cells C2 29):=Cy w.drew.drew C1 C2 _ _ _;rw[b1,e3];have pG:((dh i u cs).map (conc c)++C2.toList.drop (n+1)).toArray=C2:=by
   apply Array.ext';rw[List.toList_toArray];apply ny;intro j;have Gd:((dh i u cs).map (conc c)).length=n+1:=by rw[cj,<-jk]
   by_cases hj:j<n+1
   .rw[rA (by omega),kR,mZ,show C2.toList[j]?=C2[j]? from ni,b3,a3];by_cases h1:j<i
    .rw[ay h1,ai (by omega),ai (by omega),hR j (conc c cs[j]) (by rw[kR,aF (by omega)];rfl) h1,aF (by omega)];rfl
    .rw[ai h1];by_cases h2:j=i
     .subst h2;rw[ay U,ai (by omega),ay (by simp),gF];rfl
     .rw[ai h2,ay (by simp;omega),fB,kR,show i+(j-(i+1))=j-1 by omega]
   .rw[iz (by omega),fB,Gd,show n+1+(j-(n+1))=j by omega]
  obtain⟨g1,g2⟩:=(I.drew.drew.kill x).newRow abE 29 (C2.toList.drop (n+1));have fY:(dh i u cs).length+(C2.toList.drop (n+1)).length=G:=by simp[<-jk];omega
  rw[pG,fY,<-jk] at g1;rw[pG,fY] at g2;have To:(c.grow w.drew.drew.heap.size 0 G).room h.next 0 1=G:=by
   simp only[Ctx.room,I.next,Ctx.grow,World.size_drew,dG,h_,eH,C9]
  have hG0:G≠0:=by omega
  refine⟨_,?_,?_,g1,(dA.drew c w).trans ((dA.drew c w.drew).trans g2)⟩
  .simp only[conc,To,ai hG0];simp[I.next,Ctx.grow]
  .simp only[wf,To];exact⟨by rw[I.next,mL];omega,by omega,hG⟩
def GF : Oy:=λargs h r=>(∃x y n i cs u,args=[.sl x 0 n (.rest 1 0),.int .i64 (i:Nat),.sl y 0 1 (.exact 1)]/\h.tr.get x=some (.cells n cs false)/\h.tr.get y=some (.cells 1 [u] false)/\i<n /\
  r=(.sl h.next 0 (n+1) (.rest 1 0),(h.put x none).new (.cells (n+1) (dh i u cs) false))) \/
 iV CB 52 args h r.1 r.2/\((∃x n t y,args=[.sl x 0 n t,.int .i64 (n:Nat),y])\/∃y,args=[.aZ,.int .i64 0,y])
theorem ac9 {h:H}{k:IntKind}{a b:Int}: builtinV P h .max ts [.int k a,.int k b]=some (.int k (max a b),h):=by
 simp only[builtinV,foldV,maxV,fe,ag,gO];congr 2;rw[Int.max_def];by_cases h:b>a
 .rw[dZ h,ag,ay (by omega)]
 .rw[gh h,aS];split
  .have:a=b:=by omega
   rw[this]
  .rfl
theorem Qr {h:H}{n l:Int}(hb:View h bv b)(hc:qV (T.get h.tr) 1 cv us): buildV Tryz.prog 101 [(0,.int .i64 n),(1,.int .i64 l),(2,bv),(3,cv)]=some (.agg [.int .i64 n,.int .i64 l,bv,cv]):=by
 rcases hb.2 with⟨rfl|⟨a,rfl⟩,_⟩|⟨id,off,cap,N,cs,st,rfl,_⟩<;>rcases hc.2 with⟨rfl,_⟩|⟨wz,n2,I,N2,rest,rfl,_⟩<;>(rw[PA];rfl)
theorem bH.reads (h:bH b k link extra cs): b.length=512/\cJ b=true/\b.getD 12 0=k/\dR b 22 4=extra:=⟨h.len,h.good,h.kind,h.extra⟩
theorem ku : cB cs=tot cs+4*cs.length:=rfl
theorem Tp (I:∀c∈cs,c.length<=225)(hl:cs.length<=512): cB cs<=512*229:=by
 have:=Cs (cs:=cs) (M:=229) λc h=>by have:=I c h;omega
 have:=qb 229 hl;omega
section
variable {told:cu} {h:H} {p least:Nat} {v:V}
theorem xG (hX:wO X 1 cv us)(hc:cs[i]?=some c)(hu:P.underlying t=some (.slice e))(he:bq P e=some 1)(ha:isAggT P e=some false)(s:Sat h (X::dn us cs::S)):
  ∃u id off,indexAddrV P t cv (.int .i64 (i:Int))=some (.ptr id off)/\loadV P h e (.ptr id off)=some u/\us[i]?=some u/\Sat h (X::dn us cs::oh u c::S):=by
 obtain⟨u,I,s1⟩:=S8 (s.ae [1]) hc;have hl:=kj (s.ae [1]);have hi:=(List.getElem?_eq_some_iff.1 hc).1;obtain⟨id,off,e1,e2⟩:=VX (P:=P) (t:=t) (e:=e) (i:=i) (s.jm (j:=0) U hX) (by omega) (by decide) hu he;refine⟨u,id,off,e1,?_,I,?_⟩
 .have:=e2 0 u e (by rw[cH,hO,ay (by decide),fB,eH];exact I) ha
  rwa [eH] at this
 .have s1:=s1.ae [2,1,0];exact s1
theorem zW (I:wO X 1 cv us)(hu:P.underlying t=some (.slice e))(s:Sat h (X::dn us cs::S)): lenV P h t cv=some (.int .i64 (cs.length:Int)) :=
 zP (s.jm (j:=0) U I) (by rw[kj (s.ae [1]),cH]) (by decide) hu
theorem r_ (hT:W told)(s:Sat h (X::S))(I:cy X (cE v b))(hl:b.length<1073741824):
  Call ⟨Tryz.prog,told⟩ 49 [v] h λr h'=>Sat h' (aY r b::X::S):=by
 have hv:=s.aD (k:=0) U I;refine Call.of_wp (hT.free _ U) Tryz.func49 U U (zK 7 U (zo U (aC U U U (bA aP (s.aD (k:=0) U I))) (au.any U U U (OpR.ux U s U U U U (by omega)) ?_)));intro u h s;refine zm U (au.any U U U (OpR.qy U s I U U U U (by simp;omega)) ?_);intro u2 h s;rw[dJ] at s;exact zk 2 U (WP.ret ⟨aa,_,U,s⟩)
theorem EJ (hT:W told)(s:Sat h (X::S))(I:cy X (cE v b)): Call ⟨Tryz.prog,told⟩ 44 [v] h λr h'=>r=.bool (decide (1<=b.length/\b.length<=96))/\h'=h:=by
 have hv:=s.aD (k:=0) U I;refine Call.of_wp (hT.free _ U) Tryz.func44 U U (zK 7 U (zo U (aC U U U (bA aP (s.aD (k:=0) U I))) ?_));by_cases h1:1<=b.length
 .skip;refine zB U j5 (by simp;omega) ?_;refine zk 2 U (zo U (aC U U U (bA aP (s.aD (k:=0) U I))) ?_);by_cases h2:b.length<=96
  .skip;refine zB U wo (by simp;omega) ?_;exact zk 3 U (WP.ret ⟨aa,_,U,by rw[dZ ⟨h1,h2⟩],U⟩)
  .skip;refine zC U wo (by simp;omega) ?_;exact zk 3 U (WP.ret ⟨aa,_,U,by rw[gh (λq=>h2 q.2)],U⟩)
 .skip;refine zC U j5 (by simp;omega) ?_;exact zk 7 U (WP.ret ⟨aa,_,U,by rw[gh (λq=>h1 q.1)],U⟩)
noncomputable def szL : Code:=cX [1,1,0,1,0,0] ((Tryz.f84.body).getD .skip)
theorem Qs (hT:W told)(hX:wO X 1 cv us)(hc:∀c∈cs,c.length<=225)(hl:cs.length<=512): ∀(j i:Nat) (h:H) (E:List (Nat×V)) (Q:Ex->List (Nat×V)->H->Prop),i+j=cs.length ->
  Sat h (X::dn us cs::S)->Has E [(3,.int .i64 (cB (cs.take i):Int)),(6,cv),(7,.int .i64 (cs.length:Int)),(8,.int .i64 (i:Int))] ->
  (∀E' h',Has E' [(3,.int .i64 (cB cs:Int))]->Sat h' (X::dn us cs::S)->Q (.exit 0) E' h')->WP ⟨Tryz.prog,told⟩ 19 (.loop szL) E h Q:=by
 have hz:=Tp hc hl;intro j;induction j with
 |zero =>
  intro i h E Q hi s hE hq;have hi:i=cs.length:=hi;subst hi;rw[jP] at hE;refine WP.loop (WP.has hE (zg U (zC U aK (by simp) ?_)));exact zk 3 U (WP.exit (hq _ _ ⟨U,aa⟩ s))
 |succ j ih =>
  intro i h E Q hi s hE hq;obtain⟨c,I⟩:∃c,cs[i]?=some c:=⟨_,aF (by omega)⟩;obtain⟨u,id,off,e1,e2,_,s⟩:=xG (P:=Tryz.prog) hX I aO dQ b8 s;have gn:=hc c (aI I);have h1:=AM I;have h2:=uD (cs:=cs) (k:=i+1);refine WP.loop (WP.has hE (zg U (zB U aK (by simp;omega) ?_)));refine zk 5 U (WP.block (zg U (zo U (bM (r:=.ptr id off) U U e1) (zl U e2 (zk 5 U (zo U (aC U U U (bA aP (s.aD (k:=2) U (bC _ _)))) (zo U (aq (r:=.int .i64 ((c.length+4:Nat):Int)) U U (by rw[show((c.length+4:Nat):Int)=(c.length:Int)+4 by omega];exact aM ak)) ?_)))))));refine zo U (aq (r:=.int .i64 (cB (cs.take (i+1)):Int)) U U (by rw[show((cB (cs.take (i+1)):Nat):Int)=(cB (cs.take i):Int)+((c.length+4:Nat):Int) by omega];exact aM ak)) ?_;refine za U (zv (zr U (zb U (by exact aM ak) ?_)));refine zm U (zv ?_);exact ih (i+1) _ _ Q (by omega) (s.del 2) ⟨U,U,U,U,aa⟩ hq
theorem EK (hT:W told)(hX:wO X 1 cv us)(hc:∀c∈cs,c.length<=225)(hl:cs.length<=512)(s:Sat h (X::dn us cs::S)):
  Call ⟨Tryz.prog,told⟩ 84 [cv] h λv h'=>v=.int .i64 (cB cs:Int)/\Sat h' (X::dn us cs::S):=by
 refine Call.of_wp (hT.free _ U) Tryz.func84 U U (zK 12 U (zo U (aC U U U (zW hX aO s)) (zk 2 U (WP.block (Qs hT hX hc hl cs.length 0 _ _ _ (by omega) s ⟨U,U,U,U,aa⟩ λE' h' I s' => ?_)))));have s:=s';exact WP.has I (zK 5 U (WP.ret ⟨aa,_,U,U,s⟩))
noncomputable def hvL : Code:=cX [1,1,0,1,0,0] ((Tryz.f131.body).getD .skip)
theorem M_ (hT:W told)(hX:wO X 1 cv us)(hc:∀c∈cs,c.length<=225)(hl:cs.length<=512)(hle:least<=4)(h1:1<=cs.length): ∀(j k I GG:Nat) (h:H) (E:List (Nat×V)) (Q:Ex->List (Nat×V)->H->Prop),k+j=cs.length->1<=k->(I=0->∀i,i<k->¬mo cs least i)->(I≠0->mo cs least I) ->
  Sat h (X::dn us cs::S)->Has E [(0,cv),(1,.int .i64 (least:Int)),(5,.int .i64 (cB cs:Int)),(6,.int .i64 (cB (cs.take (k-1)):Int)),(7,.int .i64 (I:Int)),(8,.int .i64 (GG:Int)),(9,.int .i64 (k:Int))] ->
  (∀E' h' I,(I=0->∀i,¬mo cs least i)->(I≠0->mo cs least I)->Has E' [(7,.int .i64 (I:Int))]->Sat h' (X::dn us cs::S)->Q (.exit 0) E' h')->WP ⟨Tryz.prog,told⟩ 64 (.loop hvL) E h Q:=by
 have hz:=Tp hc hl;intro j;induction j with
 |zero =>
  intro k I GG h E Q hk l9 m8 lD s hE hq;have hk:k=cs.length:=hk;subst hk;refine WP.loop (WP.has hE (zK 5 U (zo U (aC U U U (zW hX aO s)) (zC U aK (by simp) ?_))));refine zk 2 U (WP.exit ?_);exact hq _ _ I (λe i hi=>by
   by_cases q:i<cs.length
   .exact m8 e i q hi
   .exact q hi.k2) lD ⟨U,aa⟩ s
 |succ j ih =>
  intro k I GG h E Q hk l9 m8 lD s hE hq;obtain⟨c,xD⟩:∃c,cs[k-1]?=some c:=⟨_,aF (by omega)⟩;obtain⟨u,id,off,e1,e2,_,s⟩:=xG (P:=Tryz.prog) hX xD aO dQ b8 s;have gn:=hc c (aI xD);have h2:=AM xD;have h3:=uD (cs:=cs) (k:=k);rw[show k-1+1=k by omega] at h2;have next:∀(AQ Wa:Nat) {h:H} {E:List (Nat×V)},(AQ=0->¬mo cs least k/\I=0)->(AQ≠0->AQ=I\/AQ=k/\mo cs least k)->Sat h (X::dn us cs::oh u c::S) ->
    Has E [(0,cv),(1,.int .i64 (least:Int)),(5,.int .i64 (cB cs:Int)),(6,.int .i64 (cB (cs.take k):Int)),(7,.int .i64 (AQ:Int)),(8,.int .i64 (Wa:Int)),(9,.int .i64 ((k+1:Nat):Int))]->WP ⟨Tryz.prog,told⟩ 64 (.loop hvL) E h Q:=by
   intro AQ Wa h E q1 q2 s hE;refine ih (k+1) AQ Wa _ _ Q (by omega) (by omega) (λe i hi => ?_) (λe => ?_) (s.del 2) hE hq
   .obtain⟨q3,q4⟩:=q1 e;by_cases q:i=k
    .subst q;exact q3
    .exact m8 q4 i (by omega)
   .rcases q2 e with q3|⟨q3,q4⟩
    .rw[q3];exact lD (by omega)
    .rw[q3];exact q4
  refine WP.loop (WP.has hE (zK 5 U (zo U (aC U U U (zW hX aO s)) (zB U aK (by simp;omega) ?_))));refine zk 4 U (WP.block (zK 5 U (zo U (aq (r:=.int .i64 ((k-1:Nat):Int)) U U (by rw[show((k-1:Nat):Int)=(k:Int)-1 by omega];exact dM ak)) ?_)));refine zo U (bM (r:=.ptr id off) U U e1) (zl U e2 (zo U (aC U U U (bA aP (s.aD (k:=2) U (bC _ _)))) (zo U (aq (r:=.int .i64 ((c.length+4:Nat):Int)) U U (by rw[show((c.length+4:Nat):Int)=(c.length:Int)+4 by omega];exact aM ak)) ?_)));refine zo U (aq (r:=.int .i64 (cB (cs.take k):Int)) U U (by rw[show((cB (cs.take k):Nat):Int)=(cB (cs.take (k-1)):Int)+((c.length+4:Nat):Int) by omega];exact aM ak)) ?_;refine zk 7 U ?_;by_cases c1:k<least
  .skip;refine zB U aK (by simp;omega) ?_;refine zk 20 U (WP.exit (zK 2 U (zb U (by exact aM ak) ?_)));refine za U (zv ?_);exact next I GG (λe=>⟨λq=>by have:=q.l1;omega,e⟩) (λ_=>.inl U) s ⟨U,U,U,U,U,U,U,aa⟩
  .skip;refine zC U aK (by simp;omega) ?_;refine zk 2 U (zo U (aC U U U (zW hX aO s)) (zm U (zo U (aq (r:=.int .i64 ((cs.length-k:Nat):Int)) U U (by rw[show((cs.length-k:Nat):Int)=(cs.length:Int)-(k:Int) by omega];exact dM ak)) ?_)));refine zm U ?_;by_cases c2:cs.length-k<least
   .skip;refine zB U aK (by simp;omega) ?_;refine zk 13 U (WP.exit (zK 2 U (zb U (by exact aM ak) ?_)));refine za U (zv ?_);exact next I GG (λe=>⟨λq=>by have:=q.l2;omega,e⟩) (λ_=>.inl U) s ⟨U,U,U,U,U,U,U,aa⟩
   .skip;refine zC U aK (by simp;omega) ?_;refine zk 3 U ?_;by_cases c3:486<cB (cs.take k)
    .skip;refine zB U cP (by simp;omega) ?_;refine zk 9 U (WP.exit (zK 2 U (zb U (by exact aM ak) ?_)));refine za U (zv ?_);exact next I GG (λe=>⟨λq=>by have:=q.s1;omega,e⟩) (λ_=>.inl U) s ⟨U,U,U,U,U,U,U,aa⟩
    .skip;refine zC U cP (by simp;omega) ?_;refine zk 4 U (zo U (aq (r:=.int .i64 (cB (cs.drop k):Int)) U U (by rw[show((cB (cs.drop k):Nat):Int)=(cB cs:Int)-(cB (cs.take k):Int) by omega];exact dM ak)) ?_);by_cases c4:486<cB (cs.drop k)
     .skip;refine zB U cP (by simp;omega) ?_;refine zk 3 U (WP.exit (zK 2 U (zb U (by exact aM ak) ?_)));refine za U (zv ?_);exact next I GG (λe=>⟨λq=>by have:=q.s2;omega,e⟩) (λ_=>.inl U) s ⟨U,U,U,U,U,U,U,aa⟩
     .skip;refine zC U cP (by simp;omega) ?_;refine zk 9 U (zo U (aq (r:=.int .i64 (cB (cs.drop k):Int)) U U (by rw[show((cB (cs.drop k):Nat):Int)=(cB cs:Int)-(cB (cs.take k):Int) by omega];exact dM ak)) ?_);obtain⟨d,hd⟩:∃d:Nat,max ((cB (cs.take k):Nat):Int) ((cB (cs.drop k):Nat):Int)=(d:Int):=⟨max (cB (cs.take k)) (cB (cs.drop k)),by omega⟩;refine zo U (KB (r:=.int .i64 (d:Int)) U U (ac9.trans (by rw[hd]))) ?_;have nX:mo cs least k:=⟨l9,by omega,by omega,by omega,by omega,by omega⟩;refine zk 5 U ?_;by_cases c5:I=0
      .skip;refine zB U cS (by simp;omega) ?_;refine zk 5 U (zv (zi U (zr U (zk 4 U (zv (zr U (zm U (zb U (by exact aM ak) ?_))))))));refine za U (zv ?_);exact next k d (λe=>by omega) (λ_=>.inr ⟨U,nX⟩) s ⟨U,U,U,U,U,U,U,aa⟩
      .skip;refine zC U cS (by simp;omega) ?_;refine zk 3 U ?_;by_cases c6:d<GG
       .skip;refine zB U aK (by simp;omega) ?_;refine zp U (zv (zi U (zr U (zk 4 U (zv (zr U (zm U (zb U (by exact aM ak) ?_))))))));refine za U (zv ?_);exact next k d (λe=>by omega) (λ_=>.inr ⟨U,nX⟩) s ⟨U,U,U,U,U,U,U,aa⟩
       .skip;refine zC U aK (by simp;omega) ?_;refine zp U (zv (zj U (WP.skip (zr U (zm U (zb U (by exact aM ak) ?_))))));refine za U (zv ?_);exact next I GG (λe=>absurd e c5) (λ_=>.inl U) s ⟨U,U,U,U,U,U,U,aa⟩
theorem I8 (hT:W told)(hX:wO X 1 cv us)(hc:∀c∈cs,c.length<=225)(hl:cs.length<=512)(hle:least<=4)(h1:1<=cs.length)(s:Sat h (X::dn us cs::S)):
  Call ⟨Tryz.prog,told⟩ 131 [cv,.int .i64 (least:Int)] h λv h'=>∃I:Nat,v=.int .i64 (I:Int)/\(I=0->∀i,¬mo cs least i)/\(I≠0->mo cs least I)/\Sat h' (X::dn us cs::S):=by
 refine Call.of_wp (hT.free _ U) Tryz.func131 U U (zK 7 U (zc U (EK hT hX hc hl s) ?_));rintro v h ⟨rfl,s⟩;refine zk 10 U (WP.block (M_ hT hX hc hl hle h1 (cs.length-1) 1 0 0 _ _ _ (by omega) (aH _) (λ_ i hi q=>by have:=q.k1;omega) (λe=>absurd U e) s ⟨U,U,U,U,U,U,U,aa⟩ λE' h' I q1 q2 dY s' => ?_));have s:=s';exact WP.has dY (zK 5 U (WP.ret ⟨aa,_,U,I,U,q1,q2,s⟩))
noncomputable def tmL : Code:=cX [1,1,1,0,1,0,0] ((Tryz.f165.body).getD .skip)
theorem Qt (hT:W told)(hX:wO X 1 cv us)(hf:cB cs<=486): ∀(j i:Nat) (v:V) (b:List Nat) (h:H) (E:List (Nat×V)) (Q:Ex->List (Nat×V)->H->Prop),i+j=cs.length->fy b 204 0 l (cs.take i) ->
  Sat h (X::dn us cs::aY v b::S)->Has E [(5,v),(19,cv),(20,.int .i64 (cs.length:Int)),(21,.int .i64 (i:Int))] ->
  (∀E' h' v' b',fy b' 204 0 l cs->Has E' [(5,v')]->Sat h' (X::dn us cs::aY v' b'::S)->Q (.exit 0) E' h')->WP ⟨Tryz.prog,told⟩ 35 (.loop tmL) E h Q:=by
 have hlen:cs.length<=512:=by rw[ku] at hf;omega
 intro j;induction j with
 |zero =>
  intro i v b h E Q hi hp s hE hq;have hi:i=cs.length:=hi;subst hi;rw[jP] at hp;refine WP.loop (WP.has hE (zg U (zC U aK (by simp) ?_)));exact zk 3 U (WP.exit (hq _ _ v b hp ⟨U,aa⟩ s))
 |succ j ih =>
  intro i v b h E Q hi hp s hE hq;obtain⟨c,xD⟩:∃c,cs[i]?=some c:=⟨_,aF (by omega)⟩;obtain⟨u,id,off,e1,e2,_,s⟩:=xG (P:=Tryz.prog) hX xD aO dQ b8 s;have h1:=AM xD;have h2:=uD (cs:=cs) (k:=i+1);have htl:(cs.take i).length=i:=by rw[cz];omega
  have I:(cs.take (i+1)).length=i+1:=by rw[cz];omega
  have qt:cs.take (i+1)=cs.take i++[c]:=by rw[nA,xD];rfl
  have LI:=Of (told:=told) hT (s.ae [3,2]) (bg _ _) (bC _ _) hp (by rw[htl];rw[ku,ku] at h1;rw[htl,I] at h1;rw[ku,I] at h2;omega);rw[htl] at LI;refine WP.loop (WP.has hE (zg U (zB U aK (by simp;omega) ?_)));refine zk 5 U (WP.block (zK 3 U (zo U (bM (r:=.ptr id off) U U e1) (zl U e2 (zk 7 U (zc U (LI) ?_))))));rintro r h ⟨u',b',rfl,qo,s⟩;rw[<-qt] at qo;refine zk 4 U (zv (zr U (zb U (by exact aM ak) ?_)));refine zm U (zv ?_);exact ih (i+1) u' b' _ _ Q (by omega) qo ((s.ae [3,3,0]).del 4 |>.del 3) ⟨U,U,U,U,aa⟩ hq
theorem LJ (I:W told)(hX:wO X 1 cv us)(hf:cB cs<=486)(hl:l<=64)(s:Sat h (X::dn us cs::S)):
  Call ⟨Tryz.prog,told⟩ 165 [.int .i64 (l:Int),cv] h λv h'=>∃b',fy b' 204 0 l cs/\Sat h' (aY v b'::X::dn us cs::S):=by
 refine Call.of_wp (I.free _ U) Tryz.func165 U U (zK 6 U (zc U (Lb (kd:=204) I s (by decide)) ?_));rintro v h ⟨u1,b1,rfl,lD,s⟩;refine zk 10 U (zc U (Oe (lk:=0) (ex:=l) I s (bg _ _) lD (by decide) (by omega)) ?_);rintro v h ⟨u2,b2,rfl,ob,s⟩;have s:=s.ae [2,2,0];refine zk 9 U (zo U (aC U U U (zW hX aO s)) (zk 2 U (WP.block (Qt I hX hf cs.length 0 u2 b2 _ _ _ (by omega) ob s ⟨U,U,U,U,aa⟩ λE' h' v' b' uE dY s' => ?_))));have s:=s';exact WP.has dY (zK 5 U (WP.ret ⟨aa,_,U,b',uE,(s.ae [2,0,0]).del 3⟩))
theorem wP (hT:W told)(hB:B<=2000)(I:EI N B ε)(hw:NW N now)(hi:i<N)(s:Sat h (GA g a p q r data aQ now ε::X::S))(hX:cy X (cE v b))(hg:cJ b=true):
  Call ⟨Tryz.prog,told⟩ 55 [.ptr g 0,.int .i64 (i:Int),v] h λv h'=>∃ah,v=.int .i64 0/\EI N B ah/\Sm N ε ah/\NW N (cD (i:Int) b now)/\Sat h' (GA g a p q r data aQ (cD (i:Int) b now) ah::X::S):=by
 have AI:=I.dH;have hwt:=tQ (ε:=ε);have hlen:=jU hg;have hb:=(s.aD (k:=1) U hX).1;have s:=dx.1 s;refine(IV hT (n:=(i:Int)) s hX (by omega) I.ok (by omega) (λe he=>jU (hw.good e he).1)).mono ?_;rintro v h ⟨e,aJ,ah,hr,rfl,s⟩;obtain⟨k1,k2,k3,k4,k5⟩:=hr.ec I.ec I.ok.pins;obtain⟨rfl,rfl⟩:=k5 (by omega) (by omega) hg;exact⟨ah,U,I.K4 hr,⟨k2,λP hP hv=>hP.K4 hr I.ec hv,hr.dH⟩,hw.put (by omega) (by omega) hg hb,dx.2 s⟩
theorem mS (hT:W told)(hB:B<=2000)(b_:EI N B ε)(hw:NW N now)(hn:n<N)(hX:wO X 1 cv us)(hf:cB cs<=486)(hl:l<=64)(s:Sat h (GA g a p q r data aQ now ε::X::dn us cs::S)):
  Call ⟨Tryz.prog,told⟩ 92 [.ptr g 0,.int .i64 (n:Int),.int .i64 (l:Int),cv] h λv h'=>∃ah b',v=.int .i64 0/\EI N B ah/\Sm N ε ah/\NW N (cD (n:Int) b' now)/\fy b' 204 0 l cs/\Sat h' (GA g a p q r data aQ (cD (n:Int) b' now) ah::X::dn us cs::S):=by
 have s:=s.ae [1,1];refine Call.of_wp (hT.free _ U) Tryz.func92 U U (zK 10 U (zc U (LJ hT hX hf hl s) ?_));rintro bv h ⟨b',hp,s⟩;have s:=s.ae [3,0];refine zc U (wP hT hB b_ hw hn s (bg _ _) hp.good) ?_;rintro v h ⟨ah,rfl,I,hs,uq,s⟩;exact zk 2 U (WP.ret ⟨aa,_,U,ah,b',U,I,hs,uq,hp,s.del 1⟩)
noncomputable def ldL : Code:=cX [1,1,1,1,1,1,1,0,1,0,0] ((Tryz.f77.body).getD .skip)
theorem Tq (hT:W told){nn:V}(hc:∀c∈cs,iT l c/\c.length<=225)(hlen:cs.length<=512)(hl:l<=64): ∀(j i:Nat) (h:H) (E:List (Nat×V)) (Q:Ex->List (Nat×V)->H->Prop),i+j=cs.length ->
  Sat h (roH 1 cv us::dn us cs::S)->Has E [(1,nn),(6,v),(11,.int .i64 (l:Int)),(12,cv),(50,cv),(51,.int .i64 (cs.length:Int)),(52,.int .i64 (i:Int))] ->
  (∀E' h',Has E' [(1,nn),(6,v),(11,.int .i64 (l:Int)),(12,cv)]->Sat h' (roH 1 cv us::dn us cs::S)->Q (.exit 0) E' h')->WP ⟨Tryz.prog,told⟩ 89 (.loop ldL) E h Q:=by
 intro j;induction j with
 |zero =>
  intro i h E Q hi s hE hq;have hi:i=cs.length:=hi;subst hi;refine WP.loop (WP.has hE (zg U (zC U aK (by simp) ?_)));exact zk 3 U (WP.exit (hq _ _ ⟨U,U,U,U,aa⟩ s))
 |succ j ih =>
  intro i h E Q hi s hE hq;obtain⟨c,xD⟩:∃c,cs[i]?=some c:=⟨_,aF (by omega)⟩;obtain⟨u,id,off,e1,e2,_,s⟩:=xG (P:=Tryz.prog) (FR _ _ _).s xD aO dQ b8 s;obtain⟨I,gn⟩:=hc c (aI xD);have hv:=s.aD (k:=2) U (bC _ _);refine WP.loop (WP.has hE (zg U (zB U aK (by simp;omega) ?_)));refine zk 5 U (WP.block (zg U (zo U (bM (r:=.ptr id off) U U e1) (zl U e2 (zk 5 U ?_)))));by_cases h0:l=0
  .subst h0;have I:1<=c.length/\1+c.getD 0 0<=c.length:=I;have m8:c[0]?=some (c.getD 0 0):=by grind
   obtain⟨lU,bo,e3,e4⟩:=eU hv m8;generalize c.getD 0 0=z at I m8 e3 e4;have hz:z<256:=hv.1 z (aI m8);refine zB U cS (by simp) ?_;refine zk 2 U (zo U (aC U U U (bA aP hv)) (zC U cS (decide_eq_false (by omega)) ?_));refine zk 2 U (zo U (aC U U U (bA aP hv)) (zm U (zo U (bM (r:=.ptr lU bo) U U e3) (zl U e4 (zo U (cN U (by exact kC Tryz.underlying5 b9 ak)) ?_)))));refine zo U (aq (r:=.int .i64 ((1+z:Nat):Int)) U U (by rw[show((1+z:Nat):Int)=1+(z:Int) by omega];exact aM ak)) ?_;refine zC U aK (by simp;omega) ?_;refine zk 4 U (zC U cP (by simp) ?_);refine zk 6 U (zv (zj U (WP.skip (zr U (zb U (by exact aM ak) ?_)))));refine zm U (zv ?_);exact ih (i+1) _ _ Q (by omega) (s.del 2) ⟨U,U,U,U,U,U,U,aa⟩ hq
  .have I:4<=c.length:=by rw[iT,ai h0] at I;exact I
   refine zC U cS (by simp;omega) ?_;refine zk 17 U (zB U cP (by simp;omega) ?_);refine zk 2 U (zo U (aC U U U (bA aP hv)) (zC U aK (by simp;omega) ?_));refine zk 2 U (zv (zj U (WP.skip (zr U (zb U (by exact aM ak) ?_)))));refine zm U (zv ?_);exact ih (i+1) _ _ Q (by omega) (s.del 2) ⟨U,U,U,U,U,U,U,aa⟩ hq
theorem zX (hT:W told)(hR:my told N B rv A pg)(b_:EI N B ε)(hn:n<N)(hp:bH (pg ε n) 204 0 l cs)(hc:∀c∈cs,iT l c/\c.length<=225)(hl:l<=64)(s:Sat h (A ε::S)):
  Call ⟨Tryz.prog,told⟩ 77 [rv,.int .i64 (n:Int)] h λv h'=>∃x ah,v=.aV [.ptr x 0,.int .i64 0]/\EI N B ah/\Sm N ε ah/\Sat h' (aW x n l (pg ε n) cs::A ah::S):=by
 obtain⟨ty,u,f,rfl,hm,jl⟩:=hR.iface;have dL:=hp.fits;obtain⟨PU,qL,I,ad9⟩:=hp.reads;refine Call.of_wp (hT.free _ U) Tryz.func77 U U (zK 9 U (au.any U U U (OpR.invoke U U U hm U (jl (n:=(n:Int)) b_ (by omega) (by omega) s)) ?_));rintro v h ⟨bv,ah,rfl,uX,hs,s⟩;refine zk 10 U (zC U aE (U) (zk 6 U (zc U (HT hT s (bg _ _) (by omega)) ?_)));rintro v h ⟨s,(⟨hg,rfl⟩|⟨hg,rfl⟩)⟩
 .rw[I,ad9];have s:=s.fh;refine zk 16 U (zC U aE (U) (zk 2 U (zC U aE (by decide) ?_)));refine zk 3 U (zC U cP (by simp;omega) ?_);refine zk 7 U (zc U (Qi hT s (bC _ _) hp) ?_);rintro v h ⟨cv,us,rfl,s⟩;have s:=s.rW;refine zk 10 U (zC U aE (U) (zk 7 U (zo U (aC U U U (zW (FR _ _ _).s aO s)) (zk 2 U (WP.block (Tq hT hc (by omega) hl cs.length 0 _ _ _ (by omega) s ⟨U,U,U,U,U,U,U,aa⟩ λE' h' dY s' => ?_))))));have s:=s';have Rb:cv.cells=[cv]/\storable cv=true:=by
   rcases (s.B2 (j:=0) U (FR _ _ _)).2 with⟨rfl,_⟩|⟨_,_,_,_,_,rfl,_⟩<;>exact⟨U,U⟩
  have Tr:=(s.aD (k:=2) U (bC _ _)).cells;refine WP.has dY (zK 6 U (zo U (cI (r:=.agg (uZ n l bv cv)) U (Qr (s.aD (k:=2) U (bC _ _)) (s.B2 (j:=0) U (FR _ _ _)))) (au.cg s U U U (fG U (by simp only[V.cells,mG,nE,Rb.2,Tr.2];rfl)) ?_)));intro x h s;refine zk 3 U (WP.ret ⟨aa,_,U,?_⟩);have s:=(s.ae [1]).eD Gu;exact⟨x,ah,U,uX,hs,aT.2 ⟨bv,cv,us,s.ae [1,2,0,0]⟩⟩
 .rw[qL] at hg;cases hg
end
def Cz (v:V)(us:List V): aG:=.xs λo:Option Nat=>match o with
 |none=>.an (.arr 1 v []) (.pu (us=[]))
 |some x=>.an (pt x (.cells us.length us false)) (.pu (v=.sl x 0 us.length (.rest 1 0)/\1<=us.length/\us.all storable=true))
section
variable {h:H} {v:V} {i:TypeInfo}
theorem k8 : cy (Cz v us) (.arr 1 v us):=λm r h=>by
 obtain⟨_|x,I,h2⟩:=h
 .have h2:us=[]:=h2;subst h2;exact I
 .obtain⟨rfl,h3,h4⟩:=h2;have I:m x=some (.cells us.length us false):=I;exact⟨h4,.inr ⟨x,us.length,.rest 1 0,us.length,[],U,by rw[gd];exact I,by omega,by rw[bY,eH],U,U,U,U,h3⟩⟩
theorem EM (s:Sat h (Cz v us::S))(hn:1<=us.length): ∃x,v=.sl x 0 us.length (.rest 1 0)/\us.all storable=true/\Sat h (pt x (.cells us.length us false)::S):=by
 obtain⟨_|x,s⟩:=j8.1 s
 .have s:Sat h (aG.an (.arr 1 v []) (.pu (us=[]))::S):=s;obtain⟨_,_,_,_,_,I⟩:=s.at (k:=0) U;have I:us=[]:=I;subst I;simp at hn
 .have s:Sat h (aG.an (pt x (.cells us.length us false)) (.pu (v=.sl x 0 us.length (.rest 1 0)/\1<=us.length/\us.all storable=true))::S):=s;obtain⟨_,_,_,_,_,q1,q2,q3⟩:=s.at (k:=0) U;exact⟨x,q1,q3,s.eD λ_ _ h=>h.1⟩
theorem CA (hn:1<=us.length)(I:us.all storable=true)(s:Sat h (pt x (.cells us.length us false)::S)): Sat h (Cz (.sl x 0 us.length (.rest 1 0)) us::S) :=
 s.eD λ_ _ h=>⟨some x,h,U,hn,I⟩
theorem ad_ (hu:P.underlying t=some (.slice e)): binV P h .eql t ox oy .aZ .aZ=some (.bool true):=by simp only[binV,eqV,hu,gO]
theorem aea {cap:Cap}(hu:P.underlying t=some (.slice e)): binV P h .eql t ox oy (.sl id off n cap) .aZ=some (.bool false):=by simp only[binV,eqV,hu,gO]
theorem bs0 (hu:P.underlying t=some (.slice e))(I:zeroT P e=some z)(hs:bq P e=some z.cells.length)(h1:Nat.ble 1 z.cells.length=true:=by rfl): buildSliceV P h t 0 []=some (.sl h.next 0 0 (.exact 0),h.new (.cells 0 [] false)):=by
 unfold buildSliceV;simp only[hu,hs,I];rw[show(Nat.beq z.cells.length z.cells.length&&Nat.ble (0*z.cells.length) 65536&&Nat.ble 1 z.cells.length)=true by rw[mH,h1,kg];rfl,ag];rfl
theorem abG (a:qV (T.get h.tr) 1 v us)(hu:P.underlying t=some (.slice e))(I:bq P e=some 1): ∃v',sliceV P h t v (some us.length) none none=some v':=by
 rcases a.2 with⟨rfl,rfl⟩|⟨id,n,cap,N,rest,rfl,hg,q1,q2,q3,q4⟩
 .refine⟨.aZ,?_⟩;simp only[sliceV,hu,I,fC,dw,bY];rfl
 .rw[cH] at q1;subst q1;refine Option.isSome_iff_exists.1 ?_;cases cap with
  |exact c =>
   have q4:_/\us.length<=c:=q4;simp only[sliceV,hu,I,fC,dw];rw[show(Nat.ble us.length us.length&&Nat.ble us.length c)=true by simp;omega,ag];rfl
  |rest z alt =>
   have q4:z=1/\_:=q4;simp only[sliceV,hu,I,fC,dw];rw[show(Nat.beq z 1&&Nat.ble 1 1)=true by simp[q4.1],ag,show(Nat.ble us.length us.length&&(Nat.ble us.length us.length||Nat.ble us.length (fJ h id 0 1)))=true by simp,ag];rfl
theorem Ts {ds:List V}(hX:wO X 1 w ds)(s:Sat h (X::S))(hu:P.underlying t=some (.slice e))(hi:P.info? e=some i)(hz:zeroT P e=some z)(hk:i.size=1)(hb:i.bytes<=4096)(hl:z.cells.length=1)(fY:ds.length<=1073741824):
  ∃v' h',appendV P (h.new (.cells 0 [] false)) #[t,t] (.sl h.next 0 0 (.exact 0)) w=some (v',h')/\Sat h' (Cz v' ds::X::S):=by
 have s0:=s.new (.cells 0 [] false);have eO:=(s.jm (j:=0) U hX).1;obtain⟨n,hn,I⟩:=S_ (s0.jm (j:=1) U hX);rw[cH] at hn;subst hn;unfold appendV;simp only[hu,hi,hz,hk,hl,I];rw[show(Nat.ble 1 1&&Nat.ble i.bytes 4096&&Nat.beq 1 1)=true by simp_all,ag];by_cases hm:ds.length=0
 .have:ds=[]:=iK hm;subst this;refine⟨_,_,U,s0.eD λm r D3=>⟨none,?_,U⟩⟩;exact⟨U,.inr ⟨h.next,0,.exact 0,0,[],U,D3,by rfl,by rfl,U,by rfl,aH _⟩⟩
 .rw[fO hm,aS];have hg:lB (0+ds.length) i.bytes=true:=by
   have e3:(0+ds.length)*i.bytes<=(0+ds.length)*4096:=CV _ hb;grind[ow]
  have hr:rdN (h.new (.cells 0 [] false)) h.next 0 (0*1)=some []:=by
   simp only[rdN,jv,dG];rfl
  have hle:Nat.ble (0+ds.length) 0=false:=by
   cases hq:Nat.ble (0+ds.length) 0 with
   |false=>rfl
   |true=>have:=aR.1 hq;omega
  simp only[hle,aS,hg,ag,hr];have e:j6 (h.new (.cells 0 [] false)) 1 [] ds (0+ds.length)=(.sl (h.new (.cells 0 [] false)).next 0 ds.length (.rest 1 0),(h.new (.cells 0 [] false)).new (.cells ds.length ds false)):=by
   simp only[j6,eW,cH,dJ]
  rw[e];exact⟨_,_,U,CA (by omega) eO (s0.drop.new _)⟩
end
section
variable {told:cu} {h:H} {v:V}
theorem mT (hT:W told)(s:Sat h (X::S))(hX:wO X 1 v us)(hl:us.length<=512:=by omega): Call ⟨Tryz.prog,told⟩ 48 [v] h λr h'=>Sat h' (Cz r us::X::S):=by
 obtain⟨i1,I,fc,pP⟩:=ri;have hm:=s.jm (j:=0) U hX;refine Call.of_wp (hT.free _ U) Tryz.func48 U U ?_;rcases hm.2 with⟨rfl,rfl⟩|⟨id,off,n,cap,N,row,rfl,hg,q1,q2,q3,q4⟩
 .skip;exact zK 8 U (zo U (aq (r:=.bool true) U U (ad_ aO)) (zk 6 U (WP.ret ⟨aa,_,U,s.map λm r hs=>⟨λ_=>none,m,λ_=>.inl U,λ_ _ h=>(by cases h),PM.le_refl _,⟨none,⟨U,.inl ⟨U,U⟩⟩,U⟩,hs⟩⟩)))
 .skip;refine zK 8 U (zo U (aq (r:=.bool false) U U (aea aO)) (zk 5 U (au.any U U U (OpR.of (R:=λv h'=>v=.sl h.next 0 0 (.exact 0)/\h'=h.new (.cells 0 [] false)) (iZ U (bs0 aO lQ dQ)) ⟨U,U⟩) ?_)))
  rintro v' h' ⟨rfl,rfl⟩;obtain⟨av,h2,sO,s2⟩:=Ts (P:=Tryz.prog) hX s aO I lQ fc (by omega) U (by omega);refine zm U (au.any U U U (OpR.of (R:=λv h'=>v=av/\h'=h2) (jc U U sO) ⟨U,U⟩) ?_);rintro v' h ⟨rfl,rfl⟩;have s:=s2;exact zk 2 U (WP.ret ⟨aa,_,U,s⟩)
structure X9 (told:cu): Prop where
 free:∀f,Nat.beq f 52=true->told f=none
theorem X9.base : X9 ue:=⟨λf I=>by
 have:=beq_iff.1 I;subst this;rfl⟩
theorem ZL (hT:X9 told)(s:Sat h (.arr 1 v us::.arr 1 y [u]::S))(hl:us.length<=512): Call ⟨Tryz.prog,told⟩ 52 [v,.int .i64 (us.length:Int),y] h λr h'=>Sat h' (.arr 1 r (us++[u])::S):=by
 obtain⟨i1,I,fc,pP⟩:=ri;obtain⟨v1,Sk⟩:=abG (P:=Tryz.prog) (s.B2 (j:=0) U (jg _ _ _)) aO dQ;refine Call.of_wp (hT.free _ U) zQ U U (zK 8 U (zo U (bK (p:=some (.int .i64 (us.length:Int))) (q:=none) (m:=none) (p':=some us.length) (q':=none) (m':=none) U U U U (by rw[bN];rfl) U U Sk) ?_));refine zk 4 U (zo U (aC U U U (s.fq (j:=1) (n:=1) U U (by decide) aO)) ?_);refine zk 6 U (zC U cS (U) (zk 6 U (zo U (aC U U U (s.fq (j:=0) (n:=us.length) U (by rw[cH]) (by decide) aO)) ?_)));refine zk 7 U (zB U cS (by simp) ?_);obtain⟨av,h2,sO,s2⟩:=iw (P:=Tryz.prog) s aO I lQ fc (by omega) U (by decide) (by simp;omega);refine zk 6 U (au.any U U U (OpR.of (R:=λv h'=>v=av/\h'=h2) (jc U U sO) ⟨U,U⟩) ?_);rintro v' h ⟨rfl,rfl⟩;have s:=s2.del 1;exact zk 2 U (WP.ret ⟨aa,_,U,s⟩)
structure WI (told:cu): Prop extends WB told where
 ins:told 52=some (qM Tryz.prog 52 GF)
theorem ZM (hT:WI told)(s:Sat h (Cz v us::pt x (.cells 1 [u] false)::S))(hu:storable u=true)(hi:i<us.length)(hl:us.length<=512):
  Call ⟨Tryz.prog,told⟩ 52 [v,.int .i64 (i:Int),.sl x 0 1 (.exact 1)] h λr h'=>Sat h' (Cz r (dh i u us)::S):=by
 obtain⟨z,rfl,eO,s⟩:=EM s (by omega);have hz:T.get h.tr z=some (.cells us.length us false):=by
  obtain⟨m,r,h1,_,h3⟩:=s.at (k:=0) U;exact h1 _ _ h3
 have hx:T.get h.tr x=some (.cells 1 [u] false):=by
  obtain⟨m,r,h1,_,h3⟩:=s.at (k:=1) U;exact h1 _ _ h3
 have fb:x≠z:=λe=>s.ne e.symm;obtain⟨r,h3,h4⟩:=xm (P:=Tryz.prog) (f:=52) (mu:=GF) (args:=[.sl z 0 us.length (.rest 1 0),.int .i64 (i:Int),.sl x 0 1 (.exact 1)]) (h:=h) (r:=(.sl h.next 0 (us.length+1) (.rest 1 0),(h.put z none).new (.cells (us.length+1) (dh i u us) false)))
  (.inl ⟨z,x,us.length,i,us,u,U,hz,hx,hi,U⟩) λc w uL hw=>ZK uL hz hx fb hi (by omega) (hw _ (by simp))
 have hr:r=(.sl h.next 0 (us.length+1) (.rest 1 0),(h.put z none).new (.cells (us.length+1) (dh i u us) false)):=by
  rcases h4 with⟨x2,y2,n2,i2,qJ,u2,I,g1,g2,g3,rfl⟩|⟨_,⟨x2,n2,t2,y2,I⟩|⟨y2,I⟩⟩
  .injection I with I e2;injection I with I _ e3 _;injection e2 with e2 e4;injection e4 with e4 _;injection e4 with e4 _ _ _;injection e2 with _ e2;subst I e4 e3;have e2:i=i2:=by omega
   subst e2;rw[hz] at g1;rw[hx] at g2;cases g1
   cases g2
   rfl
  .injection I with I e2;injection I with _ _ e3 _;injection e2 with e2 e4;injection e2 with _ e2;omega
  .exact absurd (congrArg List.head? I) (by simp)
 subst hr;refine⟨_,_,iV.told hT.ins zQ U h3,?_⟩;have hlen:(dh i u us).length=us.length+1:=lu (by omega);have s1:=(s.kill.new (.cells (us.length+1) (dh i u us) false));have sJ:(dh i u us).all storable=true:=by
  rw[nB] at eO ⊢;intro a ha;simp only[dh,nD,gz] at ha;rcases ha with h1|rfl|h1
  .exact eO a (iL h1)
  .exact hu
  .exact eO a (jd h1)
 have s2:Sat ((h.put z none).new (.cells (us.length+1) (dh i u us) false)) (pt (h.put z none).next (.cells (dh i u us).length (dh i u us) false)::pt x (.cells 1 [u] false)::S):=by rw[hlen];exact s1
 have s3:=(CA (by omega) sJ s2).del 1;rw[hlen] at s3;exact s3
theorem Tt (hT:WI told)(s:Sat h (.arr 1 v us::.arr 1 y [u]::S))(hl:us.length<=512): Call ⟨Tryz.prog,told⟩ 52 [v,.int .i64 (us.length:Int),y] h λr h'=>Sat h' (.arr 1 r (us++[u])::S):=by
 have hm:=s.B2 (j:=0) U (jg _ _ _);obtain⟨v1,h1,⟨N,hN⟩,hR⟩:=ZL (told:=ue) X9.base s hl;obtain⟨r,h3,h4⟩:=xm (P:=Tryz.prog) (f:=52) (mu:=GF) (args:=[v,.int .i64 (us.length:Int),y]) (h:=h) (r:=(v1,h1)) (.inr ⟨⟨N,hN⟩,by
   rcases hm.2 with⟨rfl,rfl⟩|⟨id,n,cap,N,rest,rfl,hg,q1,_⟩
   .exact .inr ⟨y,U⟩
   .rw[cH] at q1;exact .inl ⟨id,n,cap,y,by rw[q1]⟩⟩) λc w I hw=>(callF_ok (C:=CB) (Dl Ck AD N).1 AD hN I hw).1
 have hr:r=(v1,h1):=by
  rcases h4 with⟨x2,y2,n2,i2,qJ,u2,e1,g1,g2,g3,rfl⟩|⟨hd,_⟩
  .obtain⟨e1,e2⟩:=List.cons.inj e1;obtain⟨e2,_⟩:=List.cons.inj e2;have e2:=(V.int.inj e2).2;subst e1;rcases hm.2 with⟨e,_⟩|⟨id,n,cap,N,rest,e,hg,q1,_⟩
   .cases e
   .cases e
    omega
  .obtain⟨a,b⟩:=iV.det hd ⟨N,hN⟩;exact Prod.ext a b
 subst hr;exact⟨_,_,iV.told hT.ins zQ U h3,hR⟩
end
abbrev Fx := List (Nat×sU)
def jL (l:List (Nat×Nat)): List V:=l.flatMap λe=>[.ptr e.1 0,.int .i64 (e.2:Int)]
theorem lz : ∀(l:List (Nat×Nat)),(jL l).length=l.length*2:=by
 intro l;induction l with
 |nil=>rfl
 |cons e l I=>rw[jL,eG,aN];show 2+(jL l).length=_;rw[I,aX];omega
theorem LK {a b:List (Nat×Nat)}: jL (a++b)=jL a++jL b:=nk
def nodsA (P:Int->List Nat): Nat->Fx->aG
 |_,[]=>pu True
 |l,e::t=>star [aW e.1 e.2.pg l (P e.2.pg) (bI e.2.ks),nodsA P (l+1) t]
def eT (fx:Fx): List (Nat×Nat):=(fx.map λe=>(e.1,e.2.i)).reverse
theorem ry {e:Nat×sU}{fx:Fx}: eT (e::fx)=eT fx++[(e.1,e.2.i)]:=by simp[eT]
section
variable {told:cu} {h:H} {v:V} {k:List Nat}
theorem vA {P:Int->List Nat}{e:Nat×sU}{t:Fx}: Sat h (nodsA P l (e::t)::S)↔Sat h (aW e.1 e.2.pg l (P e.2.pg) (bI e.2.ks)::nodsA P (l+1) t::S):=dx
theorem sY (hT:W told)(hR:my told N B rv A pg)(b_:EI N B ε){m:Nat}{ky:Ky}(hc:cs[i]?=some (ff m ky))(hm:m<N)(hN:N<=65536)(hp:bH (pg ε m) 204 0 l cs')(R3:∀c∈cs',iT l c/\c.length<=225)(hl:l+1<=64)
 (s:Sat h (aW x n (l+1) b cs::A ε::S)):
  Call ⟨Tryz.prog,told⟩ 82 [.ptr x 0,rv,.int .i64 (i:Int)] h λv h'=>∃y ah,v=.aV [.ptr y 0,.int .i64 0]/\EI N B ah/\Sm N ε ah/\Sat h' (aW y m l (pg ε m) cs'::aW x n (l+1) b cs::A ah::S):=by
 refine Call.of_wp (hT.free _ U) Tryz.func82 U U (zK 10 U (zc U (DI hT hc (by omega) s) ?_))
 rintro v h ⟨rfl,s⟩
 refine zc U (zX hT hR b_ hm hp R3 (by omega) (s.ae [1])) ?_
 rintro v h ⟨y,ah,rfl,I,hs,s⟩
 have s0:=s
 obtain⟨bv,cv,us,s⟩:=aT.1 s
 have s:=s.ae [5,0]
 obtain⟨I9,zZ,us2,s⟩:=aT.1 s
 have s:=s.ae [0,3]
 refine zk 8 U ?_
 have z0:=s
 refine WP.drawn [af,af,af,af,af,af,af,af,af,af,af,af,af,af] U (by kernel_rfl) (by kernel_rfl) ?_
 refine zM U (aB.w_ U U U U (aq U U cS) (U) (zM U (zM U (zN U (zF U (ew _ _) (zL U (s.ld (k:=1) U bT U) (zM U (zN U (zF U (ew _ _) (zL U (s.ld (k:=0) U bT U) (zO U (aq U U (by exact dM ak)) ?_)))))))))))
 refine aB.rR U U U U (aq U U aE) (by simp) ?_
 refine zO U (oO U U) ?_
 refine aB.nil ⟨⟨aa,aa,aa,aa,aa,aa,aa,aa,aa,aa,aa,aa,aa,aa,aa⟩,?_⟩
 exact zK 9 U (WP.ret ⟨aa,_,U,y,ah,U,I,hs,s0.ae [0,1]⟩)
theorem Wb : ∃i,Tryz.prog.info? 94=some i/\i.size=2/\i.bytes<=4096 :=
 ⟨_,(show Tryz.prog.info? 94=some ((Tryz.prog.info? 94).getD default) by kernel_rfl),by kernel_rfl,rC (by kernel_rfl)⟩
theorem LL {wv:V}{c:List (Nat×Nat)}(hl:c.length<=200)(s:Sat h (.arr 2 wv (jL c)::S)): ∃I h1 w h2,buildSliceV Tryz.prog h 89 1 [(0,.agg [.ptr x 0,.int .i64 (i:Int)])]=some (I,h1)/\appendV Tryz.prog h1 #[89,89] wv I=some (w,h2)/\Sat h2 (.arr 2 w (jL (c++[(x,i)]))::S):=by
 obtain⟨i1,c9,fc,pP⟩:=Wb;obtain⟨I,h1,e1,s1⟩:=kY (P:=Tryz.prog) (k:=2) (x:=.agg [.ptr x 0,.int .i64 (i:Int)]) s eS Pz lR U (by decide) (by decide) U U;obtain⟨w,h2,e2,s2⟩:=iw (s1.ae [1,0]) eS c9 Pz fc pP U (by decide) (by rw[lz];simp[V.cells];omega);have s2:=s2.del 1;exact⟨I,h1,w,h2,e1,e2,by rw[LK];exact s2⟩
noncomputable def tdL : Code:=cX [1,1,1,1,0,0,0] ((Tryz.f74.body).getD .skip)
theorem Tu (hT:W told)(hR:my told N B rv A pg)(hN:N<=65536){P:Int->List Nat}(hL:L<=64){g:FuncId}{K:aG}
 (wE:∀ {x n l:Nat} {b:List Nat} {ks:List fV} {lo:Ky} {hi:Option Ky} {h:H} {S:List aG},Sep lo hi ks->ks.length<=512->1<=l->l<=64->Sat h (aW x n l b (bI ks)::K::S) ->
   Call ⟨Tryz.prog,told⟩ g (.ptr x 0::caps) h λv h'=>∃i:Nat,v=.int .i64 (i:Int)/\Ch ks i/\i<ks.length/\Sat h' (aW x n l b (bI ks)::K::S)):
  ∀(l x n:Nat) (lo:Ky) (hi:Option Ky) (eL eR:List En) (pO:List Nat) (cs:List (List Nat)) (es:List En) (ps:List Nat) (fx:Fx) (wv:V) (ε:bk) (h:H) (E:List (Nat×V)) (S:List aG) (Q:Ex->List (Nat×V)->H->Prop),
  gW F P L r (fx.map (·.2)) l lo hi n eL eR pO->Nv F P l lo hi cs es ps->bH (P n) 204 0 l cs->(fx.map (·.2)≠[]->F l cs)->EI N B ε->pg ε=P->(∀m∈ps,m<N)->fx.length+l=L->(∀e∈fx,Ch e.2.ks e.2.i) ->
  Sat h (aW x n l (P n) cs::.arr 2 wv (jL (eT fx))::nodsA P (l+1) fx::A ε::K::S)->Has E [(0,rv),(2,.fn (.func g) [] caps),(8,.ptr x 0),(10,wv)] ->
  (∀E' h' x' n' fZ eN m9 jh iW es' I Oz ah,gW F P L r (I.map (·.2)) 0 fZ eN n' m9 jh iW->js fZ eN es'->bH (P n') 204 0 0 (es'.map eE)->(I.map (·.2)≠[]->F 0 (es'.map eE))->EI N B ah->Sm N ε ah->(∀e∈I,Ch e.2.ks e.2.i)->m9++es'++jh=eL++es++eR->(iW++[n']).Perm (pO++n::ps)->I.length=L ->
   Has E' [(8,.ptr x' 0),(10,Oz)]->Sat h' (aW x' n' 0 (P n') (es'.map eE)::.arr 2 Oz (jL (eT I))::nodsA P 1 I::A ah::K::S)->Q (.exit 0) E' h')->WP ⟨Tryz.prog,told⟩ 56 (.loop tdL) E h Q:=by
 intro l;induction l with
 |zero =>
  intro x n lo hi eL eR pO cs es ps fx wv ε h E S Q nM hN0 hp hF b_ eA nZ hlen hCh s hE hq;obtain⟨rfl,jK,rfl⟩:=hN0;have s0:=s;obtain⟨bv,cv,us,s⟩:=aT.1 s;refine WP.loop (WP.has hE (zK 5 U (zY s 0 ew bT U (zC U cP (by simp) ?_))));exact zk 2 U (WP.exit (hq _ _ x n lo hi eL eR pO es fx wv ε nM jK hp hF b_ (Sm.refl N ε) hCh U (List.Perm.refl _) (by omega) ⟨U,U,aa⟩ s0))
 |succ l ih =>
  intro x n lo hi eL eR pO cs es ps fx wv ε h E S Q nM hN0 hp hF b_ eA nZ hlen hCh s hE hq;obtain⟨ks,rfl,hS,rfl,rfl,Qu⟩:=hN0;have dL:=hp.fits;rw[dI] at dL;have qu:1<=ks.length:=by
   rcases nq ks.length with q|q
   .exact absurd (iK q) hS.ne
   .exact q
  have s0:=s;obtain⟨bv,cv,us,s⟩:=aT.1 s;refine WP.loop (WP.has hE (zK 5 U (zY s 0 ew bT U (zB U cP (by simp) ?_))));refine zk 3 U (WP.block (zK 5 U (zY s 0 cM gu U (zo U (aC U U U (gR aO s)) ?_))));rw[dI];refine zC U cS (decide_eq_false (by omega)) ?_;refine zk 7 U (zc U (wE hS (by omega) (by omega) (by omega) (s0.ae [0,3])) ?_);rintro v h ⟨i,rfl,hc,fc,s⟩;have s:=s.ae [2,0,1,1,0];dsimp only[aL,bringA,getA] at s;obtain⟨kk,sW⟩:∃kk,ks[i]?=some kk:=⟨_,aF fc⟩;obtain⟨cs',hN',hF',uE⟩:=Qu i kk sW;have ve:=gU sW;have l_:(eT fx).length<=200:=by rw[eT,ju,cj];omega
  obtain⟨xv,h1,w,h2,e1,e2,s2⟩:=LL (x:=x) (i:=i) l_ s;refine zk 7 U (zo U (cI (r:=.agg [.ptr x 0,.int .i64 (i:Int)]) U (by rw[aa9];rfl)) ?_);refine au.any U U U (OpR.of (R:=λv h'=>v=xv/\h'=h1) (iZ U e1) ⟨U,U⟩) ?_;rintro xv h1 ⟨rfl,rfl⟩;refine au.any U U U (OpR.of (R:=λv h'=>v=w/\h'=h2) (jc U U e2) ⟨U,U⟩) ?_;rintro w h2 ⟨rfl,rfl⟩;have s:=s2.ae [1,2,0,0,0];dsimp only[bringA,getA,aL] at s;refine zk 7 U ?_;have xT:kk∈ks:=aI sW;have Tv:∀m∈cW kk,m<N:=λm hm=>nZ m (List.mem_flatMap.2 ⟨kk,xT,hm⟩);refine zc U (sY hT hR b_ ve (Tv kk.pg a_) hN (by rw[eA];exact uE) (λc hc=>⟨(hN'.cells c hc).1,(hN'.cells c hc).2.1⟩) (by omega) s) ?_;rintro v h ⟨y,ah,rfl,uX,hs,s⟩;refine zk 5 U (zv (zg U (zm U (zh U (aq U U aE) (U) (zv (zj U (WP.skip ?_)))))));have aeb:pg ah=P:=by rw[<-eA];funext m;exact hR.same hs m
  have aec:=nM.down hS hF hp Qu sW;rw[eA] at s;have s:=s.ae [0,2,0,1,0];have s:=s.ae [2,2];have s:Sat h (nodsA P (l+1) ((x,⟨n,ks,i⟩)::fx)::_):=(vA (e:=(x,⟨n,ks,i⟩)) (t:=fx)).2 s;have s:=s.ae [1,1,0];rw[<-ry (e:=(x,⟨n,ks,i⟩))] at s;refine ih y kk.pg (loK lo ks i) (cQ hi ks i) _ _ _ cs' kk.es kk.ps ((x,⟨n,ks,i⟩)::fx) _ ah _ _ S Q aec hN' uE (λ_=>hF') uX aeb (λm hm=>Tv m (bw _ hm)) (by rw[aX];omega) (λe he => ?_) s ⟨U,U,U,U,aa⟩ (λE' h' x' n' fZ aed m9 jh iW es' I Oz mh q1 q2 q3 q4 q5 q6 q7 q8 q9 o9 dY s' => ?_)
  .rcases List.mem_cons.1 he with rfl|he
   .exact hc
   .exact hCh e he
  .refine hq E' h' x' n' fZ aed m9 jh iW es' I Oz mh q1 q2 q3 q4 q5 (hs.trans q6) q7 ?_ ?_ o9 dY s'
   .rw[q8,sV sW];simp[dO]
   .refine q9.trans ?_;rw[vy,sV sW,lX];intro z;simp only[cW,lY,lZ,fK];omega
theorem OA (hT:W told)(hR:my told N B rv A pg)(hN:N<=65536){P:Int->List Nat}(hL:L<=64){g:FuncId}{K:aG}
 (wE:∀ {x n l:Nat} {b:List Nat} {ks:List fV} {lo:Ky} {hi:Option Ky} {h:H} {S:List aG},Sep lo hi ks->ks.length<=512->1<=l->l<=64->Sat h (aW x n l b (bI ks)::K::S) ->
   Call ⟨Tryz.prog,told⟩ g (.ptr x 0::caps) h λv h'=>∃i:Nat,v=.int .i64 (i:Int)/\Ch ks i/\i<ks.length/\Sat h' (aW x n l b (bI ks)::K::S))(hv:Nv F P L lo hi cs es ps)(hp:bH (P r) 204 0 L cs)(b_:EI N B ε)(I:pg ε=P)(hr:r<N)(nZ:∀m∈ps,m<N)(jF:lo=[])(GC:hi=none)(s:Sat h (A ε::K::S)):
  Call ⟨Tryz.prog,told⟩ 74 [rv,.int .i64 (r:Int),.fn (.func g) [] caps] h λv h'=>∃w x n lo hi eL eR pO es' fx ah,v=.aV [w,.int .i64 0]/\gW F P L r (fx.map (·.2)) 0 lo hi n eL eR pO/\js lo hi es'/\bH (P n) 204 0 0 (es'.map eE)/\(fx.map (·.2)≠[]->F 0 (es'.map eE))/\EI N B ah/\Sm N ε ah/\(∀e∈fx,Ch e.2.ks e.2.i) /\
   eL++es'++eR=es/\(pO++[n]).Perm (r::ps)/\fx.length=L/\Sat h' (.arr 2 w (jL (eT fx++[(x,0)]))::aW x n 0 (P n) (es'.map eE)::nodsA P 1 fx::A ah::K::S):=by
 subst jF GC;refine Call.of_wp (hT.free _ U) Tryz.func74 U U (zK 9 U (zc U (zX hT hR b_ hr (by rw[I];exact hp) (λc hc=>⟨(hv.cells c hc).1,(hv.cells c hc).2.1⟩) hL s) ?_));rintro v h ⟨x,dz,rfl,kD,ej,s⟩;rw[I] at s;have gV:pg dz=P:=by rw[<-I];funext m;exact hR.same ej m
 refine zk 10 U (zC U aE (U) (zk 8 U (WP.block ?_)));have s:=((s.lJ (k:=2)).ir (φ:=True) aa).ae [2,1,0];have s:Sat h (aW x r L (P r) cs::.arr 2 .aZ (jL (eT []))::nodsA P (L+1) []::_):=s;refine Tu hT hR hN (g:=g) (caps:=caps) (Ch:=Ch) hL wE L x r [] none [] [] [] cs es ps [] .aZ dz _ _ _ _ ⟨U,U,U,U,U,U,U⟩ hv hp (λq=>absurd U q) kD gV nZ (by simp) (λe he=>by cases he) s ⟨U,U,U,U,aa⟩ λE' h' x' n' fZ eN m9 jh iW es' fx' Oz ah q1 q2 q3 q4 q5 q6 q7 q8 q9 o9 dY s' => ?_;have s:=s';refine WP.has dY ?_;have s:=s.ae [1];obtain⟨xv,h1,w,h2,e1,e2,s2⟩:=LL (x:=x') (i:=0) (by rw[eT,ju,cj];omega) s;refine zK 4 U (zo U (cI (r:=.agg [.ptr x' 0,.int .i64 ((0:Nat):Int)]) U (by rw[aa9];rfl)) ?_);refine au.any U U U (OpR.of (R:=λv h'=>v=xv/\h'=h1) (iZ U e1) ⟨U,U⟩) ?_;rintro xv h1 ⟨rfl,rfl⟩;refine au.any U U U (OpR.of (R:=λv h'=>v=w/\h'=h2) (jc U U e2) ⟨U,U⟩) ?_;rintro w h2 ⟨rfl,rfl⟩;exact zk 3 U (WP.ret ⟨aa,_,U,w,x',n',fZ,eN,m9,jh,iW,es',fx',ah,U,q1,q2,q3,q4,q5,ej.trans q6,q7,by simpa using q8,by simpa using q9,o9,s2⟩)
theorem gW.way {P:Int->List Nat}{k:Ky}: ∀ {fs:List sU} {l:Nat} {lo:Ky} {hi:Option Ky} {n:Nat} {eL eR:List En} {pO:List Nat},gW F P L r fs l lo hi n eL eR pO->(∀f∈fs,Way f.ks k f.i)->Bd lo hi k:=by
 intro fs;induction fs with
 |nil=>rintro l lo hi n eL eR pO ⟨_,rfl,rfl,_⟩ _;exact⟨by cases k with|nil=>exact nF _|cons x t=>exact oM (vF _ _),λb I=>by cases I⟩
 |cons f fs ih =>
  rintro l lo hi n eL eR pO ⟨fZ,eN,m9,jh,iW,kk,h1,h2,rfl,rfl,rfl,_⟩ hw;exact(hw f a_).bd (ih h1 λg hg=>hw g (bw _ hg))
theorem abH (hT:WB told)(hX:cy X (cE kv k)){kb:Nat}(hS:Sep lo hi ks)(hlen:ks.length<=512)(I:1<=l)(iJ:l<=64)(s:Sat h (aW x n l b (bI ks)::star [pt kb (.cells 1 [kv] false),X]::S)):
  Call ⟨Tryz.prog,told⟩ 115 [.ptr x 0,.ptr kb 0] h λv h'=>∃i:Nat,v=.int .i64 (i:Int)/\Way ks k i/\i<ks.length/\Sat h' (aW x n l b (bI ks)::star [pt kb (.cells 1 [kv] false),X]::S):=by
 have hW:=hT.w;have s:=dx.1 (s.ae [1]);have s:Sat h (pt kb (.cells 1 [kv] false)::X::aW x n l b (bI ks)::S):=s;refine Call.of_wp (hW.free _ U) Tryz.func115 U U (zK 7 U (zy s 0 b8 U (zc U (abD hT hX hS hlen I iJ (s.ae [2,1])) ?_)));rintro v h ⟨i,rfl,hw,s⟩;refine zk 2 U (WP.ret ⟨aa,_,U,?_⟩);have s:=s.ae [2,1,0];have s:Sat h (star [pt kb (.cells 1 [kv] false),X]::_):=dx.2 s;exact⟨i,U,hw,hw.lt,s.ae [1]⟩
theorem JQ (hT:WB told)(hR:my told N B rv A pg)(hN:N<=65536){P:Int->List Nat}(hL:L<=64)(hX:cy X (cE kv k))(hv:Nv F P L [] none cs es ps)(hp:bH (P r) 204 0 L cs)(b_:EI N B ε)(eA:pg ε=P)(hr:r<N)(nZ:∀m∈ps,m<N)(s:Sat h (A ε::X::S)):
  Call ⟨Tryz.prog,told⟩ 45 [rv,.int .i64 (r:Int),kv] h λv h'=>∃w x n lo hi eL eR pO es' fx ah,v=.aV [w,.int .i64 0]/\gW F P L r (fx.map (·.2)) 0 lo hi n eL eR pO/\js lo hi es'/\bH (P n) 204 0 0 (es'.map eE)/\(fx.map (·.2)≠[]->F 0 (es'.map eE))/\EI N B ah/\Sm N ε ah/\Bd lo hi k /\
   eL++es'++eR=es/\(pO++[n]).Perm (r::ps)/\fx.length=L/\Sat h' (.arr 2 w (jL (eT fx++[(x,0)]))::aW x n 0 (P n) (es'.map eE)::nodsA P 1 fx::A ah::X::S):=by
 have hW:=hT.w;have I:=s.aD (k:=1) U hX;refine Call.of_wp (hW.free _ U) Tryz.func45 U U (zg U (au.cg s U U U (fG U (by simp only[I.cells.1,mG,nE,I.cells.2];rfl)) ?_));intro kb h s;rw[I.cells.1] at s;have s:=s.ae [0,1,0];have s:Sat h (star [pt kb (.cells 1 [kv] false),X]::_):=dx.2 s;refine zk 7 U (zo U (JG U U) (zc U (OA hW hR hN (Ch:=λks i=>Way ks k i) hL (λhS hlen wD iJ s=>abH hT hX hS hlen wD iJ s) hv hp b_ eA hr nZ U U (s.ae [1])) ?_));rintro v h ⟨w,x,n,lo,hi,eL,eR,pO,es',fx,ah,rfl,q1,q2,q3,q4,q5,q6,q7,q8,q9,o9,s⟩;refine zk 5 U (WP.ret ⟨aa,_,U,?_⟩);have s:=dx.1 (s.ae [4]);have s:=s.ae [2,2,2,2,1];refine⟨w,x,n,lo,hi,eL,eR,pO,es',fx,ah,U,q1,q2,q3,q4,q5,q6,q1.way λf hf => ?_,q8,q9,o9,s.del 5⟩;obtain⟨e,he,rfl⟩:=List.mem_map.1 hf;exact q7 e he
end
def fI (es:List En)(k:Ky): Option Ky:=(es.find? λe=>decide (e.1=k)).map (·.2)
section
variable {eL eR:List En} {k:Ky}
theorem xH (h:∀e∈es,e.1≠k): fI es k=none:=by
 unfold fI;rw[List.find?_eq_none.2 λe he=>by simpa using h e he];rfl
theorem EN : fI (eL++es) k=(fI eL k).or (fI es k):=by
 unfold fI;rw[He];cases eL.find? λe=>decide (e.1=k)<;>rfl
theorem DJ {e:En}(h:(es.map (·.1)).Nodup)(he:es[i]?=some e)(hk:e.1=k): fI es k=some e.2:=by
 unfold fI;have:es.find? (λe=>decide (e.1=k))=some e:=by
  induction es generalizing i with
  |nil=>simp at he
  |cons a t ih =>
   simp only[hU,nC] at h;rw[List.find?_cons];cases i with
   |zero =>
    simp only[j9,aA] at he;subst he;simp[hk]
   |succ i =>
    simp only[oI] at he;have I:a.1≠k:=λq=>h.1 (by rw[q,<-hk];exact nj (aI he));simp only[I,yF];exact ih h.2 he
 rw[this];rfl
theorem Ec.none (h:Ec es k i)(hs:js lo hi es)(hn:sameE es k i=false): fI es k=none:=by
 refine xH λe he q => ?_;obtain⟨j,I⟩:=List.mem_iff_getElem?.1 he;by_cases h1:j<i
 .have:=h.lo j e I h1;rw[q] at this;exact absurd this (jQ _)
 .rcases CY (rD h1) with h2|rfl
  .obtain⟨d,hd⟩:∃d,es[i]?=some d:=⟨_,aF (by have:=(List.getElem?_eq_some_iff.1 I).1;omega)⟩;have h3:=h.hi i d hd (aH _);have h4:=hs.get hd I h2;rw[q] at h4;exact absurd h4 (List.not_lt.2 h3)
  .simp only[sameE,I,q,C_] at hn;cases hn
theorem EO (I:∀e∈eL,e.1<k)(h2:∀e∈eR,k<e.1): fI (eL++es++eR) k=fI es k:=by
 rw[EN,EN,xH (es:=eL) (λe he q=>absurd (q ▸ I e he) (jQ _)),xH (es:=eR) (λe he q=>absurd (q ▸ h2 e he) (jQ _))];cases fI es k<;>rfl
theorem gW.side {P:Int->List Nat}{fs:List sU}{pO:List Nat}(h:gW F P L r fs l lo hi n eL eR pO)(hb:Bd lo hi k): (∀e∈eL,e.1<k)/\∀e∈eR,k<e.1:=by
 obtain⟨h1,h2⟩:=h.bd;refine⟨λe he => ?_,λe he => ?_⟩
 .exact Std.lt_of_lt_of_le (h1 e he) hb.1
 .obtain⟨b,I,ob⟩:=h2 e he;exact Std.lt_of_lt_of_le (hb.2 b I) ob
theorem EP (h:sameE es k i=true): ∃e,es[i]?=some e/\e.1=k:=by
 unfold sameE at h;cases q:es[i]? with
 |none=>rw[q] at h;cases h
 |some e=>rw[q] at h;exact⟨e,U,rC h⟩
theorem DL (e:En): (eE e).drop (1+(eE e).getD 0 0)=e.2:=by
 simp[eE,Nat.add_comm 1]
theorem js.nodup (h:js lo hi es): (es.map (·.1)).Nodup:=by
 have:=h.jY;rw[Ni,List.pairwise_map];exact this.imp λh q=>absurd (q ▸ h) (jQ _)
end
section
variable {h:H} {c:List (Nat×Nat)}
theorem wQ (hu:P.underlying t=some (.slice e))(pY:bq P e=some 2)(I:c[j]?=some (x,i))(s:Sat h (.arr 2 w (jL c)::S)):
  ∃id off,indexAddrV P t w (.int .i64 (j:Int))=some (.ptr id off)/\(∀t',isAggT P t'=some false->loadV P h t' (.ptr id off)=some (.ptr x 0))/\∀t',isAggT P t'=some false->loadV P h t' (.ptr id (off+1))=some (.int .i64 (i:Int)):=by
 have IN:=(List.getElem?_eq_some_iff.1 I).1;have hg:∀ {c:List (Nat×Nat)} {j:Nat},c[j]?=some (x,i)->((jL c).drop (j*2)).take 2=[.ptr x 0,.int .i64 (i:Int)]:=by
  intro c;induction c with
  |nil=>simp
  |cons a t ih =>
   intro j I;cases j with
   |zero =>
    simp only[j9,aA] at I;subst I;rfl
   |succ j =>
    rw[show jL (a::t)=[.ptr a.1 0,.int .i64 (a.2:Int)]++jL t from U,show(j+1)*2=2+j*2 by omega,<-yC];exact ih I
 obtain⟨id,off,e1,e2⟩:=adO (P:=P) (t:=t) (e:=e) (i:=j) (s.B2 (j:=0) U (jg _ _ _)) (by rw[lz];omega) (by decide) hu pY;rw[hg I] at e2;exact⟨id,off,e1,λt' ht=>e2 0 _ t' U ht,λt' ht=>e2 1 _ t' U ht⟩
end
section
variable {told:cu} {h:H} {v:V} {k:List Nat}
theorem ZN (hT:WB told)(hR:my told N B rv A pg)(hN:N<=65536){P:Int->List Nat}(hL:L<=64)(hX:cy X (cE kv k))(hk:1<=k.length/\k.length<=96)(hv:Nv F P L [] none cs es ps)(hp:bH (P r) 204 0 L cs)(b_:EI N B ε)(eA:pg ε=P)(hr:r<N)(I:∀m∈ps,m<N)(s:Sat h (A ε::X::S)):
  Call ⟨Tryz.prog,told⟩ 17 [rv,.int .i64 (r:Int),kv] h λv h'=>∃ah,EI N B ah/\Sm N ε ah/\match fI es k with
   |none=>v=.aV [.aZ,.bool false,.int .i64 0]/\Sat h' (A ah::X::S)
   |some val=>∃bv,v=.aV [bv,.bool true,.int .i64 0]/\Sat h' (aY bv val::A ah::X::S):=by
 have hW:=hT.w;refine Call.of_wp (hW.free _ U) Tryz.func17 U U (zK 10 U (zc U (EJ hW (s.ae [1]) hX) ?_));rintro v h' ⟨rfl,rfl⟩;rw[dZ hk];refine zo U (eo U U) (zk 8 U (zc U (JQ hT hR hN hL hX hv hp b_ eA hr I s) ?_));rintro v h ⟨w,x,n,lo,hi,eL,eR,pO,es',fx,ah,rfl,q1,q2,q3,q4,q5,q6,q7,q8,q9,o9,s⟩;refine zk 10 U (zC U aE (U) ?_);have uG:(eT fx).length=L:=by rw[eT,ju,cj,o9]
 have l_:(eT fx++[(x,0)]).length=L+1:=by rw[aN,uG];rfl
 obtain⟨id,off,e1,e2,_⟩:=wQ (P:=Tryz.prog) (j:=L) (x:=x) (i:=0) eS lR (by rw[iz (by omega),uG,gF];rfl) s;refine zk 7 U (zo U (aC U U U (s.fq (j:=0) (n:=L+1) U (by rw[lz,l_]) (by decide) eS)) ?_);refine zo U (aq (r:=.int .i64 (L:Int)) U U (by rw[show((L:Nat):Int)=((L+1:Nat):Int)-1 by omega];exact dM ak)) ?_;refine zo U (bM (r:=.ptr id off) U U e1) (zf U (jx _ _) (zl U (e2 _ fH) (zk 6 U (zc U (AP hT hX q2 (by have:=q3.fits;rw[cj] at this;omega) (s.ae [1,3])) ?_))));rintro v h ⟨i,rfl,hl,s⟩;obtain⟨ej,jZ⟩:=q1.side q7;rw[<-q8,EO ej jZ];cases hq:sameE es' k i with
 |false =>
  rw[hl.none q2 hq];exact zk 10 U (zo U (eo U U) (zk 8 U (WP.ret ⟨aa,_,U,ah,q5,q6,U,(s.ae [4,1]).del 4 |>.del 3 |>.del 2⟩)))
 |true =>
  obtain⟨e,he,xB⟩:=EP hq;rw[DJ q2.nodup he xB];obtain⟨c1,c2,c3⟩:=vV q2 he;refine zk 10 U (zo U (eo U U) (zk 7 U (zc U (DH hW c1 c2 c3 s) ?_)));rintro bv h s;rw[DL] at s;refine zc U (r_ hW s (bC _ _) (by have:=(q2.sz e (aI he)).2.2;omega)) ?_;intro r h s;exact zk 4 U (WP.ret ⟨aa,_,U,ah,q5,q6,r,U,(s.ae [0,5,2]).del 6 |>.del 5 |>.del 4 |>.del 3⟩)
end
theorem abI (M:List Nat): ∀N:Nat,(∀j,j<N->bt M j=true)\/∃lo,lo<N/\bt M lo=false/\∀j,j<lo->bt M j=true:=by
 intro N;induction N with
 |zero=>exact .inl λj hj=>absurd hj (vG _)
 |succ N I =>
  rcases I with I|⟨lo,h1,h2,h3⟩
  .cases hb:bt M N with
   |true =>
    refine .inl λj hj => ?_;rcases CY (Nat.le_of_lt_succ hj) with q|rfl
    .exact I j q
    .exact hb
   |false=>exact .inr ⟨N,tu N,hb,I⟩
  .exact .inr ⟨lo,by omega,h2,h3⟩
theorem fT.frame {p p':Int->List Nat}(h:fT n R M p)(h0:p' 0=p 0)(I:p' 1=p 1): fT n R M p' :=
 ⟨by rw[h0];exact h.head,h.rl,by rw[I];exact h.marks,h.ml,h.n1,h.n2,h.own,h.hi⟩
section
variable {told:cu} {h:H} {p:Nat} {v:V}
theorem CC (hT:W told)(hB:B<=2000)(b_:EI N B ε)(hw:NW N now)(hp:fT N R M (pgG now ε))(ht:jo N M ps)(s:Sat h (GA g a p q r data aQ now ε::S)):
  Call ⟨Tryz.prog,told⟩ 100 [.ptr g 0] h λv h'=>∃ah aJ,EI N B ah/\Sm N ε ah/\NW N aJ/\aJ.length<=now.length+2/\Sat h' (GA g a p q r data aQ aJ ah::S) /\
   ((v=.aV [.int .i64 0,.int .i64 7]/\aJ=now/\N<=ps.length+2)\/∃(z:Nat) (M':List Nat),v=.aV [.int .i64 (z:Int),.int .i64 0]/\2<=z/\z<N/\z∉ps/\fT N R M' (pgG aJ ah)/\jo N M' (z::ps)/\∀m,m≠1->m≠(z:Int)->pgG aJ ah m=pgG now ε m):=by
 rcases abI M N with I|⟨lo,I,h2,h3⟩
 .exact(Qp hT hB b_ hw hp I s).mono λv h' ⟨ah,e,a1,a2,a3⟩=>⟨ah,now,a1,a2,hw,by omega,a3,.inl ⟨e,U,rD λcq=>by
   obtain⟨lo,g1,g2,_⟩:=ht.low cq;rw[I lo g1] at g2;cases g2⟩⟩
 .have h4:=ht.bits lo I;rw[h2] at h4;have h5:=of_decide_eq_false h4.symm;have h6:2<=lo:=by omega
  have h7:lo∉ps:=λq=>h5 (.inr q);have qp:=hp.n2;have Gd:=hp.ml;refine(Tk hT hB b_ hw hp I h2 h3 s).mono λv h' ⟨ah,aJ,e,a1,a2,a3,a4,a5,a6,_,_,a7⟩=>⟨ah,aJ,a1,a2,a3,a4,a7,.inr ⟨lo,Gz M lo,e,h6,I,h7,a5,ht.more I h6 h7 λj => ?_,a6⟩⟩;rw[X4 (by omega)];by_cases hj:j=lo
  .simp[hj]
  .simp[hj]
theorem Wc (hT:W told)(hB:B<=2000)(b_:EI N B ε)(hw:NW N now)(hp:fT N R M (pgG now ε))(ht:jo N M ps)(s:Sat h (GA g a p q r data aQ now ε::S)):
  Call ⟨Tryz.prog,told⟩ 33 [.ptr g 0] h λv h'=>∃ah aJ,EI N B ah/\Sm N ε ah/\NW N aJ/\aJ.length<=now.length+3/\Sat h' (GA g a p q r data aQ aJ ah::S) /\
   ((v=.aV [.int .i64 0,.int .i64 7]/\aJ=now/\N<=ps.length+2)\/∃(z:Nat) (M':List Nat),v=.aV [.int .i64 (z:Int),.int .i64 0]/\2<=z/\z<N/\z∉ps/\fT N R M' (pgG aJ ah)/\jo N M' (z::ps)/\fy (pgG aJ ah z) 204 0 0 []/\∀m,m≠1->m≠(z:Int)->pgG aJ ah m=pgG now ε m):=by
 refine Call.of_wp (hT.free _ U) Tryz.func33 U U (zK 8 U (zc U (CC hT hB b_ hw hp ht s) ?_));rintro v h ⟨dz,I,b1,b2,b3,b4,s1,(⟨rfl,rfl,vt⟩|⟨z,M',rfl,c1,c2,c3,c4,c5,c6⟩)⟩
 .skip;refine zk 10 U (zB U aE (by decide) ?_);exact zk 8 U (WP.ret ⟨aa,_,U,dz,_,b1,b2,b3,by omega,s1,.inl ⟨U,U,vt⟩⟩)
 .skip;refine zk 10 U (zC U aE (U) (zk 8 U ?_));have s:=((s1.lJ (k:=1)).ir (φ:=True) aa).ae [2,1,0];have s:Sat h (GA g a p q r data aQ I dz::.arr 1 .aZ []::dn [] []::S):=s;refine zc U (mS hT hB b1 b3 c2 (jg _ _ _).s (by decide) (by decide) s) ?_;rintro v h ⟨ij,b',rfl,d1,d2,d3,d4,s⟩;refine zk 3 U (WP.ret ⟨aa,_,U,?_⟩);have yR:∀m:Int,pgG I ij m=pgG I dz m:=λm=>by rw[gI d2]
  refine⟨ij,_,d1,b2.trans d2,d3,?_,(s.del 2).del 1,.inr ⟨z,M',U,c1,c2,c3,c4.frame ?_ ?_,c5,?_,λm h1 h2 => ?_⟩⟩
  .have:=gy (i:=(z:Int)) (b:=b') (now:=I);omega
  .rw[eY,ai (by omega),yR]
  .rw[eY,ai (by omega),yR]
  .rw[eY,ay U];exact d4
  .rw[eY,ai (λe=>h2 e.symm),yR];exact c6 m h1 h2
end
section
variable {f:V->α->aG} {a b:PM}
theorem CD : ∀ {l:List V} {m:List α} (k:Nat),(each f l m).p a b->(each f (l.take k) (m.take k)).p a b:=by
 intro l;induction l with
 |nil=>intro m k h;cases m with
  |nil=>simpa using h
  |cons x m=>exact h.elim
 |cons v l I=>intro m k h;cases m with
  |nil=>exact h.elim
  |cons x m=>cases k with
   |zero=>exact aa
   |succ k=>exact⟨h.1,I k h.2⟩
theorem CE : ∀ {l:List V} {m:List α} (k:Nat),(each f l m).p a b->(each f (l.drop k) (m.drop k)).p a b:=by
 intro l;induction l with
 |nil=>intro m k h;cases m with
  |nil=>simpa using h
  |cons x m=>exact h.elim
 |cons v l I=>intro m k h;cases m with
  |nil=>exact h.elim
  |cons x m=>cases k with
   |zero=>exact h
   |succ k=>exact I k h.2
end
def aee (v:V)(b:Nat): V:=match v with
 |.sl id off _ _=>.sl id off b (.exact b)
 |v=>v
def aef (v:V)(a:Nat): V:=match v with
 |.sl id off n (.exact c)=>.sl id (off+a*1) (n-a) (.exact (c-a))
 |.sl id off n (.rest _ alt)=>.sl id (off+a*1) (n-a) (.rest 1 (cond (Nat.beq a 0) alt (cond (Nat.blt a n) (off+a*1) off)))
 |v=>v
section
variable {h:H} {v:V} {cs:List V}
theorem xI {b:Nat}(hm:wN (T.get h.tr) 1 v cs)(hb:b<=cs.length)(h1:1<=b)(hu:P.underlying t=some (.slice e))(I:bq P e=some 1): sliceV P h t v none (some b) (some b)=some (aee v b):=by
 rcases hm.2 with⟨rfl,rfl⟩|⟨id,off,n,cap,N,row,rfl,hg,q3,q4,q5,q6⟩
 .simp at hb;omega
 .have hl:cs.length=n:=by rw[<-q5,cz,fD];omega
  cases cap with
  |exact c =>
   have q6:n<=c:=q6;simp only[sliceV,hu,I,fC];rw[show(Nat.ble 0 b&&Nat.ble b b&&Nat.ble b c)=true by simp;omega,ag,fO (by omega),aS,mH,eH,h_];rfl
  |rest a alt =>
   have q6:a=1:=q6;simp only[sliceV,hu,I,fC];rw[show(Nat.beq a 1&&Nat.ble 1 1)=true by simp[q6],ag,show(Nat.ble 0 b&&Nat.ble b b&&(Nat.ble b n||Nat.ble b (fJ h id off 1))&&Nat.blt 0 n)=true by simp[gj];omega,ag,fO (by omega),aS,mH,eH,h_];rfl
theorem JR (hm:wN (T.get h.tr) 1 v cs)(ha:a<cs.length)(hu:P.underlying t=some (.slice e))(I:bq P e=some 1): sliceV P h t v (some a) none none=some (aef v a):=by
 rcases hm.2 with⟨rfl,rfl⟩|⟨id,off,n,cap,N,row,rfl,hg,q3,q4,q5,q6⟩
 .simp at ha
 .have hl:cs.length=n:=by rw[<-q5,cz,fD];omega
  cases cap with
  |exact c =>
   have q6:n<=c:=q6;simp only[sliceV,hu,I,fC,dw];rw[show(Nat.ble a n&&Nat.ble n c)=true by simp;omega,ag,fO (by omega),aS];rfl
  |rest z alt =>
   have q6:z=1:=q6;simp only[sliceV,hu,I,fC,dw];rw[show(Nat.beq z 1&&Nat.ble 1 1)=true by simp[q6],ag,show(Nat.ble a n&&(Nat.ble n n||Nat.ble n (fJ h id off 1)))=true by simp;omega,ag];rfl
end
section
variable {told:cu} {h:H} {v:V}
theorem LM (k:Nat)(s:Sat h (dn us cs::S)): Sat h (dn (us.take k) (cs.take k)::dn us cs::S) :=
 (s.dup (bf.qO _ _)).eD λ_ _ h=>CD k h
theorem LN (k:Nat)(s:Sat h (dn us cs::S)): Sat h (dn (us.drop k) (cs.drop k)::dn us cs::S) :=
 (s.dup (bf.qO _ _)).eD λ_ _ h=>CE k h
theorem Wd (hT:W told)(hX:wO X 1 cv us)(hc:cs[i]?=some c)(I:iT l c)(hl:l<=64)(gn:c.length<=225)(s:Sat h (pt x (.cells 4 (uZ n l bv cv) false)::X::dn us cs::S)):
  Call ⟨Tryz.prog,told⟩ 117 [.ptr x 0,.int .i64 (i:Int)] h λr h'=>Sat h' (oh r (fM l c)::pt x (.cells 4 (uZ n l bv cv) false)::X::dn us cs::S):=by
 have s:=s.ae [1,1]
 obtain⟨u,id,off,e1,e2,hui,s⟩:=xG (P:=Tryz.prog) hX hc aO dQ b8 s
 have s:=s.ae [3,0,0,0]
 have hv:=s.aD (k:=3) U (bC _ _)
 refine Call.of_wp (hT.free _ U) Tryz.func117 U U (zK 9 U (zY s 0 ew bT U ?_))
 by_cases h0:l=0
 .subst h0
  have I:1<=c.length/\1+c.getD 0 0<=c.length:=I
  have m8:c[0]?=some (c.getD 0 0):=by grind
  obtain⟨lU,bo,e3,e4⟩:=eU hv m8
  have pE:fM 0 c=(c.take (1+c.getD 0 0)).drop 1:=by rw[fM,ay U,l7,tj]
  generalize c.getD 0 0=z at I m8 e3 e4 pE
  have hz:z<256:=hv.1 z (aI m8)
  refine zC U cP (by simp) ?_
  refine zk 4 U ?_
  have z0:=s
  refine WP.drawn [af,af,af,af,af,af,af,af,af,af,af,af,af,af,af,af,af,af,af] U (by kernel_rfl) (by kernel_rfl) ?_
  refine zM U (zN U (zF U (cM _ _) (zL U (s.ld (k:=0) U gu U) (zM U (zO U (bM (r:=.ptr id off) U U e1) (zL U e2 (zM U (zN U (zF U (cM _ _) (zL U (s.ld (k:=0) U gu U) (zM U (zO U (bM (r:=.ptr id off) U U e1) (zL U e2 (zO U (bM (r:=.ptr lU bo) U U e3) (zL U e4 (zO U (aq (r:=.int .u8 ((1+z:Nat):Int)) U U (by rw[show((1+z:Nat):Int)=1+(z:Int) by omega];exact aM qH)) ?_))))))))))))))))
  refine zO U (bK (p:=some (.int .i64 1)) (q:=some (.int .u8 ((1+z:Nat):Int))) (m:=none) (p':=some 1) (q':=some (1+z)) (m':=none) U U U U (by rfl) (by rw[bN];rfl) U (fR hv (by omega) (by omega)).1) ?_
  refine zA U ?_
  refine aB.nil ⟨⟨aa,aa,aa,aa,aa,aa,aa,aa,aa,aa,aa,aa,aa,aa,aa,aa,aa,aa,aa,aa⟩,?_⟩
  refine WP.ret ⟨aa,_,U,?_⟩
  have s:=(s.ae [3]).eD (ru (a:=1) (b:=1+z) (by omega) (by omega))
  rw[<-pE] at s
  exact s
 .have I:4<=c.length:=by rw[iT,ai h0] at I;exact I
  have pE:fM l c=(c.take c.length).drop 4:=by rw[fM,ai h0,jP]
  refine zB U cP (by simp;omega) ?_
  refine zk 6 U (zY s 0 cM gu U (zm U (zo U (bM (r:=.ptr id off) U U e1) (zl U e2 (zo U (bK (p:=some (.int .i64 4)) (q:=none) (m:=none) (p':=some 4) (q':=none) (m':=none) U U U U (by rfl) U U (iu hv I).1) ?_)))))
  refine zk 2 U (WP.ret ⟨aa,_,U,?_⟩)
  have s:=(s.ae [3]).eD (ru (a:=4) (b:=c.length) I (aH _))
  rw[<-pE] at s
  exact s
end
def wyA (w:V)(c:List (Nat×Nat)): aG:=.xs λo:Nat×Cap×Nat×List V=>.an (.ro o.1 (.cells o.2.2.1 o.2.2.2 false))
 (.pu (w=.sl o.1 0 c.length o.2.1/\o.2.2.2.length=o.2.2.1/\c.length*2<=o.2.2.1/\o.2.2.2.take (c.length*2)=jL c/\1<=c.length/\match o.2.1 with|.exact q=>c.length<=q|.rest z _=>z=2))
section
variable {h:H} {c:List (Nat×Nat)} {b:Nat}
theorem Qv (hc:1<=c.length)(s:Sat h (.arr 2 w (jL c)::S)): Sat h (wyA w c::S) :=
 s.rW.eD λm r h=>by
  obtain⟨_|⟨id,n,cap,N,rest⟩,h⟩:=h
  .have:=dg List.length h.2.2;rw[lz] at this;simp at this;omega
  .obtain⟨h1,h2,h3,h4,I,h6,h7⟩:=h;rw[lz] at h4;have:n=c.length:=by omega
   subst this;refine⟨(id,cap,N,jL c++rest),h1,h3,by rw[aN];exact I,by rw[lz] at I;show c.length*2<=N;omega,by rw[<-lz,ga U],hc,?_⟩;cases cap with
   |exact q=>exact h7.2
   |rest z alt=>exact h7.1
theorem DM (s:Sat h (wyA w c::S)): ∃id cap N row,w=.sl id 0 c.length cap/\row.length=N/\c.length*2<=N/\row.take (c.length*2)=jL c/\1<=c.length/\(match cap with|.exact q=>c.length<=q|.rest z _=>z=2)/\Sat h (ro id (.cells N row false)::S):=by
 obtain⟨o,s⟩:=j8.1 s;obtain⟨_,_,_,_,_,q1,I,q3,q4,q5,q6⟩:=s.at (k:=0) U;exact⟨o.1,o.2.1,o.2.2.1,o.2.2.2,q1,I,q3,q4,q5,q6,s.eD λ_ _ h=>h.1⟩
theorem CF (s:Sat h (wyA w c::S))(hu:P.underlying t=some (.slice e)): lenV P h t w=some (.int .i64 (c.length:Int)):=by
 obtain⟨id,cap,N,row,rfl,_⟩:=DM s;simp only[lenV,hu]
theorem OB : ∀ {c:List (Nat×Nat)} {j:Nat},c[j]?=some (x,i)->((jL c).drop (j*2)).take 2=[.ptr x 0,.int .i64 (i:Int)]:=by
 intro c;induction c with
 |nil=>simp
 |cons a t ih =>
  intro j I;cases j with
  |zero =>
   simp only[j9,aA] at I;subst I;rfl
  |succ j =>
   rw[show jL (a::t)=[.ptr a.1 0,.int .i64 (a.2:Int)]++jL t from U,show(j+1)*2=2+j*2 by omega,<-yC];exact ih I
theorem JS (hu:P.underlying t=some (.slice e))(I:bq P e=some 2)(hj:c[j]?=some (x,i))(s:Sat h (wyA w c::S)):
  ∃id off,indexAddrV P t w (.int .i64 (j:Int))=some (.ptr id off)/\(∀t',isAggT P t'=some false->loadV P h t' (.ptr id off)=some (.ptr x 0))/\(isAggT P e=some true->loadV P h e (.ptr id off)=some (.agg [.ptr x 0,.int .i64 (i:Int)])):=by
 have IN:=(List.getElem?_eq_some_iff.1 hj).1;obtain⟨id,cap,N,row,rfl,q1,q2,q3,q4,q5,s⟩:=DM s;have hr:=s.aaW (k:=0) U;have hd:(row.drop (j*2)).take 2=[.ptr x 0,.int .i64 (i:Int)]:=by
  rw[<-OB hj,<-q3,l7,rH,yz (by omega)]
 refine⟨id,j*2,?_,λt' ht=>BP ht hr ?_,λht => ?_⟩
 .simp only[indexAddrV,hu,I,fS];rw[show(decide ((0:Int)<=(j:Int))&&decide ((j:Int)<(c.length:Int)))=true by simp;omega,ag,eW]
 .rw[gB];have:=dg (λl=>l[0]?) hd;simpa[hO,fB] using this
 .simp only[loadV,ht,I];rw[pL hr q1,hd];rfl
def slHd (v:V)(b:Nat): V:=match v with
 |.sl id off _ (.exact q)=>.sl id off b (.exact q)
 |.sl id off _ (.rest _ alt)=>.sl id off b (.rest 2 alt)
 |v=>v
theorem Sat.Ic (s:Sat h S)(I:getA S j=some (wyA w c)): ∃id cap,w=.sl id 0 c.length cap/\1<=c.length/\match cap with|.exact q=>c.length<=q|.rest z _=>z=2:=by
 obtain⟨_,_,_,_,o,_,q1,q2,q3,q4,q5,q6⟩:=s.at I;exact⟨o.1,o.2.1,q1,q5,q6⟩
theorem Sat.AR (s:Sat h S)(I:getA S j=some (wyA w c))(hu:P.underlying t=some (.slice e)): lenV P h t w=some (.int .i64 (c.length:Int)):=by
 obtain⟨id,cap,rfl,_⟩:=s.Ic I;simp only[lenV,hu]
theorem Sat.AS (s:Sat h S)(hj:getA S j=some (wyA w c))(hu:P.underlying t=some (.slice e))(I:bq P e=some 2)(hb:b<=c.length): sliceV P h t w none (some b) none=some (slHd w b):=by
 obtain⟨id,cap,rfl,_,q5⟩:=s.Ic hj;cases cap with
 |exact q =>
  have q5:c.length<=q:=q5;simp only[sliceV,hu,I,fC,dw];rw[show(Nat.ble 0 b&&Nat.ble b q)=true by simp;omega,ag,mH,eH,h_,h_];cases Nat.beq q 0<;>rfl
 |rest z alt =>
  have q5:z=2:=q5;simp only[sliceV,hu,I,fC,dw];rw[show(Nat.beq z 2&&Nat.ble 1 2)=true by simp[q5],ag,show(Nat.ble 0 b&&(Nat.ble b c.length||Nat.ble b (fJ h id 0 2)))=true by simp;omega,ag];simp[slHd]
theorem LO (h1:1<=b)(hb:b<=c.length)(s:Sat h (wyA w c::S)): Sat h (wyA (slHd w b) (c.take b)::S):=by
 obtain⟨id,cap,N,row,rfl,q1,q2,q3,q4,q5,s⟩:=DM s;have hl:(c.take b).length=b:=by rw[cz];omega
 have ht:jL (c.take b)=(jL c).take (b*2):=by
  have:jL c=jL (c.take b)++jL (c.drop b):=by rw[<-LK,jO]
  rw[this,ga (by rw[lz,hl])]
 have key:∀I,(match I with|.exact q=>b<=q|.rest z _=>z=2)->Sat h (wyA (.sl id 0 b I) (c.take b)::S):=λI hc=>s.eD λm r h=>by
  refine⟨(id,I,N,row),h,by rw[hl],q1,by rw[hl];show b*2<=N;omega,?_,by rw[hl];exact h1,?_⟩
  .rw[hl,ht,<-q3,rH,yz (by omega)]
  .rw[hl];exact hc
 cases cap with
 |exact q=>exact key (.exact q) (by have q5:c.length<=q:=q5;show b<=q;omega)
 |rest z alt=>exact key (.rest 2 alt) U
theorem Sat.ac_ (s:Sat h S)(I:getA S j=some (wyA w c)): w.beq w=true/\(slHd w b).beq (slHd w b)=true:=by
 obtain⟨id,cap,rfl,_⟩:=s.Ic I;refine⟨Ao _ _ _ _,?_⟩;cases cap<;>exact Ao _ _ _ _
end
theorem Qw : jJ (List.replicate 512 0)=0:=by rw[jJ,ay U]
def fresh (n m f:Nat): bk:=(Pl.fresh f,(Lg.fresh,Dk.fresh n m))
theorem LP {m:Nat}(k:Int): (Dk.fresh n m).at k=List.replicate 512 0:=by
 rw[Dk.at,show lookL k (Dk.fresh n m).now=none from U];simp only[Dk.fresh];cases I:(List.replicate n (none:Option (List Nat)))[k.toNat]? with
 |none=>rfl
 |some o =>
  have:=ym (aI I);subst this;rfl
theorem I_ {m f:Nat}(k:Int): pgA (fresh n m f) k=List.replicate 512 0:=by
 rw[pV (by rfl)];exact LP k
theorem LQ {f:Nat}{x:Fm}(h:(Pl.fresh f).aj[i]?=some x): x=gp:=ym (aI h)
theorem EI.fresh {m f:Nat}(hn:n<=65536)(hm:m<=16777216)(hf:1<=f)(I0:f<=1024): EI n 1 (fresh n m f):=by
 have uU:∀x∈(Pl.fresh f).aj,x=gp:=λx I=>ym I;have hlen:(Pl.fresh f).aj.length=f:=f_;refine⟨⟨⟨⟨(show 0<(Pl.fresh f).aj.length by rw[hlen];omega),(show(Pl.fresh f).aj.length<=1024 by rw[hlen];exact I0),λe he=>(by cases he),λx I=>by rw[uU x I];decide,λx I=>by rw[uU x I];decide⟩,Lg.K6,?_⟩,λx I=>by rw[uU x I];rfl,⟨vI,λk i hk=>(by cases hk)⟩⟩,⟨?_,vI,λk i hk=>(by cases hk),λi x I=>.inl (by rw[LQ I];decide),λk hk=>(by cases hk),vI⟩,⟨U,aH _,(show(1:Nat)+0<=1*1048600 by decide)⟩,?_⟩
 .exact⟨(show(-1:Int)<4294967296 by decide),gG _,hm,λe he=>(by cases he),λi b hb=>(by have h1:some b=none:=ym (aI hb);cases h1),aH _,(show(List.replicate n (none:Option (List Nat))).length<=65536 by rw[f_];exact hn)⟩
 .exact⟨U,(show(-1:Int)<0 by decide),f_,λk hk=>(by cases hk),vI,λk h0 h1=>by show jJ ((Dk.fresh n m).at k)=0;rw[LP];exact Qw⟩
 .have e:jW (Pl.fresh f).aj=0:=by
   rw[jW,List.count_eq_zero];intro hh;obtain⟨x,I,hc⟩:=List.mem_map.1 hh;rw[uU x I] at hc;cases hc
  show([]:List Wr).length+jW (Pl.fresh f).aj<=_;rw[e];decide
theorem ZO (h:n<128): (digits 9 n).length=1:=by
 grind[digits]
theorem OC (h:n<16384): (digits 9 n).length<=2:=by
 grind[digits]
theorem ER {c:fU}(I:c.bQ.toNat<16384)(h2:c.pos.toNat<16384)(h3:c.b.length<16384): (pR c).length<=7+c.b.length:=by
 grind[OC,pR]
theorem ZP {pg:Int}{now:List Nat}{l:List fU}(hr:A9 pg was now i l)(hn:now.length=512)(hp:pg.toNat<16384): ∀j,(∀k,i<=k->k<j->was[k]?=now[k]?)->j<=520->(l.flatMap pR).length<=520-max i j:=by
 induction hr with
 |done i h=>simp
 |skip i l h he hr ih =>
  grind
 |take i e l h1 h2 h3 h4 hr ih =>
  intro j hj Le;have kI:j<=i:=rD λI=>h3 (hj i (aH _) I);have h5:=ih (e+8) h4 (by omega);have hl:((now.take e).drop i).length=e-i:=by grind
  have h6:=ER (c:=⟨pg,i,false,(now.take e).drop i⟩) hp (by grind) (by grind);rw[eG,aN];simp only[hl] at h6;omega
theorem ZQ {pg:Int}{now:List Nat}{c:List fU}(hr:SG pg was now c)(I:now.length=512)(hp:pg.toNat<16384): (c.flatMap pR).length<=520:=by
 obtain⟨l,hl,rfl⟩:=hr;have:=ZP hl I hp 0 (λk _ h=>absurd h (by omega)) (by omega);grind[ER]
theorem mQ.few {l:List Int}{e:Int}{cs:List fU}(hr:mQ now l ε e cs ah)(hn:NW N now): (∀n∈l,n.toNat<16384)->(cs.flatMap pR).length<=520*l.length:=by
 induction hr with
 |nil ε=>simp
 |err n l ε e b ah hr he=>simp
 |part n l ε was b ah c e cs I hr hb A8 hc gn ht ih =>
  intro hl;have h1:=ZQ hc (jU (hn.look hb).1) (hl n a_);grind
 |whole n l ε was b ah e cs I hr hb A8 ht ih =>
  have qo:=jU (hn.look hb).1;grind[ER]
theorem ES {e:Int}{cs:List fU}{kd:Int}(hr:mQ now (gK now) ε e cs ah)(I:NW N now)(hL:now.length<=L)(hN:N<=16384)(ht:tx<16384): (gY kd tx 0 0 [] cs).length<=520*L+20:=by
 have h2:=OC ht;have h4:=ZO (n:=([]:List Nat).length) (by decide);have h5:=M5 cs.length;have h6:=hr.few I λn hm=>by have:=I.keys n (uB.1 hm);omega
 have hl:(gK now).length<=L:=by
  rw[gK,(jb _).length_eq,cj];exact hL
 have hl:=CV 520 hl;simp only[gY,aN,aX,bY] at h4 ⊢;omega
theorem AT (K M:Nat): oC λx=>x.2.log.length=K/\x.2.room=M:=by
 refine⟨λx n h => ?_,λx n b h => ?_⟩
 .unfold cV Dk.jz;split
  .exact h
  .split
   .exact h
   .split
    .exact h
    .split<;>first|exact h|exact h
 .unfold Dk.eP;split
  .exact h
  .split
   .exact h
   .split<;>exact h
def xJ (K M:Nat)(ε:bk): Prop:=ε.2.2.log.length<=K/\ε.2.2.room=M
theorem xJ.sm {M:Nat}(h:xJ K M ε)(hs:Sm N ε ah): xJ K M ah:=by
 have:=hs.2.1 _ ((AT ε.2.2.log.length ε.2.2.room).ad2 N) ⟨U,U⟩;exact⟨by rw[this.1];exact h.1,by rw[this.2];exact h.2⟩
theorem uC.fits {M:Nat}{e:Int}{cl:Bool}(hr:uC ε now kd tx 0 0 [] 0 bj e cl ah)(b_:EI N B ε)(hB:B<=4000)(hw:NW N now)(hL:now.length<=L)(hN:N<=2999)(X_:L<=2000)(h1:1<=kd)(h2:kd<=7)(F9:tx<16384)(hd:xJ K M ε)(hf:K+520*L+28<=M):
  cl=true/\e=0/\xJ (K+520*L+28) M ah:=by
 have FC:∀n∈gK now,0<=n/\n<N:=λn hq=>hw.keys n (uB.1 hq);obtain⟨hK,hM⟩:=hd;have Qx:=b_.done hB hw (by omega) (by omega) hr;cases hr with
 |arg hh=>omega
 |dead _ _ _ hd=>omega
 |tf e c ah _ _ _ _ hc Gf=>exact absurd (hc.ec b_.ec b_.ok FC).2.2 Gf
 |app c I _ _ _ _ hc Gf =>
  have KR:=ES (kd:=kd) hc hw hL (by omega) F9;have afz:520*L+20<=1048576:=by omega
  have hP:=(AT ε.2.2.log.length ε.2.2.room).ch hc ⟨U,U⟩;grind[nW,iR,Ax]
 |put c I e kQ _ _ _ _ hc ha hp =>
  rcases Qx with⟨gn,_⟩|⟨_,he,_⟩
  .grind
  .refine⟨U,he,?_⟩;have KR:=ES (kd:=kd) hc hw hL (by omega) F9;have hP:=(AT ε.2.2.log.length ε.2.2.room).ch hc ⟨U,U⟩;rcases nW I.2 kd tx 0 0 [] c with⟨e,he,A2,hq⟩|⟨_,xx,hq⟩|⟨_,hb,J7,dL,xx,hq⟩
   .grind
   .grind
   .rw[hq] at hp;have jG:=(AT (ε.2.2.log.length+(iR I.2.1 kd tx 0 0 [] c).length) ε.2.2.room).pt hp ⟨by grind,hP.2⟩;have h3:(iR I.2.1 kd tx 0 0 [] c).length<=520*L+28:=by rw[iR,Ax];omega
    exact⟨by omega,by omega⟩
section
variable {h:H} {x:V}
theorem OD (s:Sat h S)(hu:P.underlying t=some (.slice e))(hz:zeroT P e=some z)(hk:bq P e=some 1)(hl:z.cells.length=1)(hx:x.cells=[x])(hy:y.cells=[y])(I:storable x=true)(hsy:storable y=true):
  ∃v h',buildSliceV P h t 2 [(0,x),(1,y)]=some (v,h')/\Sat h' (.arr 1 v [x,y]::S):=by
 refine⟨.sl h.next 0 2 (.exact 2),newRow h [x,y],?_,?_⟩
 .obtain⟨z0,yL⟩:∃z0,z.cells=[z0]:=by
   match hq:z.cells with
   |[]=>rw[hq] at hl;cases hl
   |[z0]=>exact⟨z0,U⟩
   |_::_::_=>rw[hq] at hl;simp at hl
  simp only[buildSliceV,hu,hk,hz,yL];rw[show(Nat.beq [z0].length 1&&Nat.ble (2*1) 65536&&Nat.ble 1 1)=true by rfl,ag];have e1:repeatL [z0] 2=[z0,z0]:=by simp[repeatL]
  simp only[fillV,e1,hx,hy,aX,bY];show cond ([x,y].all storable) (some (V.sl h.next 0 2 (Cap.exact 2),newRow h [x,y])) none=_
  simp only[mG,nE,I,hsy];rfl
 .refine(s.new _).eD λm r hm=>⟨by simp[I,hsy],.inr ⟨h.next,2,.exact 2,2,[],U,?_,U,U,U,U,aH _⟩⟩
  have hm:m h.next=some (.cells 2 [x,y] false):=hm
  rw[hm];rfl
theorem OE {S:Prop}: cy (pu S) (cE .aZ []):=λ_ _ _=>.inl ⟨λ_ h=>(by cases h),.inl ⟨.inl U,U⟩⟩
end
theorem vB : buildV Tryz.prog 47 [(0,.int .i64 (kd:Int))]=some (.agg (qq (kd:Int) 0 0 0 .aZ .aZ)):=by rw[UY];rfl
section
variable {told:cu} {h:H} {M p:Nat} {v x op:V} {l:List Nat}
theorem fy.done (hw:NW N now)(hd:∀m,pgA ah m=match lookL m now with|some b=>e_ b bj|none=>pgA ε m){i:Int}(I:fy (pgG now ε i) kd link extra cs): fy (pgA ah i) kd link extra cs:=by
 rw[hd];unfold pgG at I;cases hq:lookL i now with
 |none=>rw[hq] at I;exact I
 |some b =>
  rw[hq] at I;obtain⟨k1,k2,_⟩:=Cq (n:=bj) I.len;exact I.tail k2 k1
theorem fT.done {M:List Nat}(hw:NW N now)(hd:∀m,pgA ah m=match lookL m now with|some b=>e_ b bj|none=>pgA ε m)(I:fT n R M (pgG now ε)): fT n R M (pgA ah):=by
 obtain⟨ex,h0⟩:=I.head;obtain⟨kd,lk,sC,h1⟩:=I.marks;exact⟨⟨ex,h0.done hw hd⟩,I.rl,⟨kd,lk,sC,h1.done hw hd⟩,I.ml,I.n1,I.n2,I.own,I.hi⟩
theorem Tw (hT:W told)(jK:lq ε)(I:dH ε+65536<=268435456)(VF:ε.2.1.b=ε.2.2.log)(fY:ε.2.1.base+ε.2.1.b.length+1048584<=1099511627776)(hNm:N<=65536)(hw:NW N now)(s:Sat h (GA g a p q r data aQ now ε::S)):
  Call ⟨Tryz.prog,told⟩ 18 [.ptr g 0,.agg (qq (kd:Int) 0 0 0 .aZ .aZ)] h λv h'=>∃(bj:Nat) (e:Int) (cl:Bool) (ah:bk),uC ε now kd 0 0 0 [] 0 bj e cl ah/\v=.aV [.int .u64 (bj:Int),.int .i64 e] /\
   Sat h' (iS g a now cl::SA a p q r (cond cl .cf (.ptr g 0)) data aQ ah::S):=by
 have s:=dx.1 s;have s:Sat h (iS g a now false::gM a p q r (.ptr g 0) data aQ::gE r p q ε.1::dF q p ε.2.1::bX p ε.2.2::S):=s;have s:=(s.ir (φ:=True) aa).lJ (k:=4);refine(Zw (tg:=0) (data:=[]) hT (s.ae [2,2,2,2,2,1,0]) OE U jK I (λe he=>jU (hw.good e he).1) (by have:=hw.len;omega) (λn hn=>by have:=hw.keys n hn;omega) (by decide) (by decide) (by decide) (gG _) VF fY).mono ?_;rintro v h ⟨bj,e,cl,ah,hr,rfl,s⟩;have s:Sat h (iS g a now cl::gM a p q r (cond cl .cf (.ptr g 0)) data aQ::gE r p q ah.1::dF q p ah.2.1::bX p ah.2.2::pu True::S):=s;have s2:Sat h (SA a p q r (cond cl .cf (.ptr g 0)) data aQ ah::iS g a now cl::pu True::S):=dx.2 (s.ae [1,1,1,1,0]);exact⟨bj,e,cl,ah,hr,U,(s2.ae [1]).del 2⟩
theorem Ja (hT:W told)(hB:B<=4000)(I:EI N B ε)(hw:NW N now)(s:Sat h (GA g a p q r data aQ now ε::S)):
  Call ⟨Tryz.prog,told⟩ 18 [.ptr g 0,.agg (qq (kd:Int) 0 0 0 .aZ .aZ)] h λv h'=>∃(bj:Nat) (e:Int) (cl:Bool) (ah:bk),uC ε now kd 0 0 0 [] 0 bj e cl ah/\v=.aV [.int .u64 (bj:Int),.int .i64 e] /\
   Sat h' (iS g a now cl::SA a p q r (cond cl .cf (.ptr g 0)) data aQ ah::S):=by
 have AI:=I.dH;have fY:=I.el.size;exact Tw hT I.ok (by omega) I.el.log (by omega) I.many hw s
theorem Jb (hT:W told)(hB:B<=4000)(I:EI N B ε)(hw:NW N now)(hL:now.length<=L)(hN:N<=2999)(X_:L<=2000)(h1:1<=kd)(h2:kd<=7)(hd:xJ K M ε)(hf:K+520*L+28<=M)(s:Sat h (GA g a p q r data aQ now ε::S)):
  Call ⟨Tryz.prog,told⟩ 18 [.ptr g 0,.agg (qq (kd:Int) 0 0 0 .aZ .aZ)] h λv h'=>∃(bj:Nat) (ah:bk),v=.aV [.int .u64 (bj:Int),.int .i64 0]/\EI N (B+2) ah/\(∀m,pgA ah m=match lookL m now with|some b=>e_ b bj|none=>pgA ε m)/\xJ (K+520*L+28) M ah /\
   Sat h' (iS g a now true::SA a p q r .cf data aQ ah::S)/\uC ε now kd 0 0 0 [] 0 bj 0 true ah:=by
 refine(Ja hT hB I hw s).mono ?_;rintro v h ⟨bj,e,cl,ah,hr,rfl,s⟩;obtain⟨rfl,rfl,aeg⟩:=hr.fits I (by omega) hw hL hN X_ h1 h2 (by decide) hd hf;rcases I.done (by omega) hw (by omega) (by omega) hr with⟨gn,_⟩|⟨_,_,uX,eA⟩
 .cases gn
 .exact⟨bj,ah,U,uX,eA,aeg,s,hr⟩
noncomputable def mdL : Code:=cX [1,1,1,0,1,0,0] ((Tryz.f98.body).getD .skip)
theorem Tx (hT:W told)(dL:26+4*cs.length+tot cs<=512)(ou:us.length=cs.length): ∀(m i:Nat) (v:V) (b:List Nat) (h:H) (E:List (Nat×V)) (Q:Ex->List (Nat×V)->H->Prop),i+m=cs.length->fy b kd link extra (cs.take i) ->
  Sat h (aY v b::each (λv c=>.cG v c) us cs::.arr 1 cv us::S)->Has E [(7,v),(22,cv),(23,.int .i64 (cs.length:Int)),(24,.int .i64 (i:Int))] ->
  (∀v' b' E' h',fy b' kd link extra cs->Has E' [(7,v')]->Sat h' (aY v' b'::each (λv c=>.cG v c) us cs::.arr 1 cv us::S)->Q (.exit 0) E' h')->WP ⟨Tryz.prog,told⟩ 38 (.loop mdL) E h Q:=by
 intro m;induction m with
 |zero =>
  intro i v b h E Q hi hp s hE hq;refine WP.loop (WP.has hE (zg U (zC U aK (by simp;omega) ?_)));exact zk 3 U (WP.exit (hq v b _ _ (by rw[show cs.take i=cs from g_ (by omega)] at hp;exact hp) ⟨U,aa⟩ s))
 |succ m ih =>
  intro i v b h E Q hi hp s hE hq;have I:cs[i]?=some (cs[i]'(by omega)):=aF _;generalize (cs[i]'(by omega))=c at I;obtain⟨u,hu,s⟩:=NY (λ_ _=>bf.cG _ _) (s.ae [1]) I;dsimp only[aL,bringA] at s;obtain⟨id,off,e1,e2⟩:=ki (P:=Tryz.prog) s (k:=3) (i:=i) (c:=u) U hu aO dQ;have K_:=i_ I;have IQ:=lK (cs:=cs) (i:=i+1);have hlen:(cs.take i).length=i:=by rw[cz];omega
  have qt:cs.take (i+1)=cs.take i++[c]:=by rw[nA,I];rfl
  refine WP.loop (WP.has hE (zg U (zB U aK (by simp;omega) ?_)));refine zk 5 U (WP.block (zK 3 U (zo U (bM (r:=.ptr id off) U U e1) (zl U (e2 _ b8) (zk 7 U ?_)))));have LI:=Of (told:=told) hT (s.ae [2,0]) (bg _ _) (bC _ _) hp (by rw[hlen];omega);rw[hlen] at LI;refine zc U (LI) ?_;rintro r h ⟨u',b',rfl,qo,s⟩;rw[<-qt] at qo;refine zk 4 U (zv (zr U (zb U (by exact aM ak) ?_)));refine zm U (zv ?_);exact ih (i+1) u' b' _ _ Q (by omega) qo (((s.ae [0,2,2]).del 4).del 3) ⟨U,U,U,U,aa⟩ hq
theorem OF (hT:W told)(Gp:kd<=255)(Lc:lk<4294967296)(I:26+4*cs.length+tot cs<=512)(ou:us.length=cs.length)(s:Sat h (each (λv c=>.cG v c) us cs::.arr 1 cv us::S)):
  Call ⟨Tryz.prog,told⟩ 98 [.int .i64 (kd:Int),.int .i64 (lk:Int),cv] h λr h'=>∃b',fy b' kd lk 0 cs/\Sat h' (aY r b'::S):=by
 refine Call.of_wp (hT.free _ U) Tryz.func98 U U (zK 7 U (zc U (Lb (kd:=kd) hT s Gp) ?_));rintro r h ⟨u,b,rfl,hb,s⟩;refine zk 10 U (zc U (Oe (lk:=lk) (ex:=0) hT s (bg _ _) hb Lc (by decide)) ?_);rintro r h ⟨u2,b2,rfl,ob,s⟩;refine zk 9 U (zo U (aC U U U (s.fq (n:=cs.length) (j:=3) U (by rw[ou,cH]) (by decide) aO)) ?_);refine zk 2 U (WP.block ?_);refine Tx hT I ou cs.length 0 u2 b2 _ _ _ (by omega) ob (s.ae [0,1,1]) ⟨U,U,U,U,aa⟩ (λv' b' E' h' uE hE s' => ?_);have s:=s';exact WP.has hE (zK 5 U (WP.ret ⟨aa,_,U,b',uE,((s.del 3).del 2).del 1⟩))
theorem Qy (hT:W told)(s:Sat h (X::S))(hX:cy X (cE v b))(hl:b.length=512)(hg:cJ b=false): Call ⟨Tryz.prog,told⟩ 160 [v] h λr h'=>r=.aV [.aZ,.int .i64 4]/\Sat h' (X::S):=by
 refine Call.of_wp (hT.free _ U) K0 U U (zK 8 U (zc U (uz hT s hX (by omega)) ?_));rintro r h' ⟨s,(⟨I,rfl⟩|⟨_,rfl⟩)⟩
 .rw[hg] at I;cases I
 refine zk 3 U ?_;refine au.cg s U U U (cm jC) (λp4 h s => ?_);refine zS U (s.gX (j:=0) U aU U U) (λh s => ?_);refine zk 6 U (zB U aE (by decide) ?_);exact zk 8 U (WP.ret ⟨aa,_,U,U,s.drop⟩)
theorem Ty (hT:W told)(hR:my told N B rv A pg)(b_:EI N B ε)(hN:1<=N)(hl:(pg ε 0).length=512)(hg:cJ (pg ε 0)=false)(s:Sat h (A ε::S)):
  Call ⟨Tryz.prog,told⟩ 163 [rv] h λv h'=>∃ah,v=.aV [.aZ,.int .i64 0,.bool false,.int .i64 0]/\EI N B ah/\Sm N ε ah/\Sat h' (A ah::S):=by
 obtain⟨ty,u,f,rfl,hm,jl⟩:=hR.iface;refine Call.of_wp (hT.free _ U) Tryz.func163 U U (zK 10 U (au.any U U U (OpR.invoke U U U hm U (jl b_ (by decide) (by omega) s)) ?_));rintro v h ⟨u,ah,rfl,I,hs,s⟩;refine zk 10 U (zC U aE (U) (zk 6 U (zc U (Qy hT s (bg _ _) hl hg) ?_)));rintro v h ⟨rfl,s⟩;refine zk 8 U (WP.drawn [af,af,af,af,af,af,af,af,some (0,2),some (0,2),some (0,2),af,af,af,af,af,af,af,af,af,af,af] U (by kernel_rfl) (by kernel_rfl) ?_);refine zM U (aB.w_ U U U U (aq U U aE) (by decide) ?_);refine zM U (aB.no (e:=false) U U U U (aB.no (e:=false) U U U U (aB.no (e:=false) U U U U (zO U (oO U U) (zM U (aB.no (e:=false) U U U U (aB.no (e:=false) U U U U (aB.no (e:=false) U U U U (aB.no (e:=true) U U U U (aB.no (e:=true) U U U U (aB.no (e:=false) U U U U (zO U (oO U U) (zM U (aB.no (e:=false) U U U U (aB.no (e:=false) U U U U (aB.no (e:=false) U U U U (aB.no (e:=false) U U U U (aB.no (e:=false) U U U U (zO U (oO U U) ?_)))))))))))))))))));refine aB.nil ⟨⟨aa,aa,aa,aa,aa,aa,aa,aa,λ_ _=>.inl U,λ_ _=>.inl U,λ_ _=>.inl U,yr 12⟩,?_⟩;exact zK 8 U (WP.ret ⟨aa,_,U,ah,U,I,hs,s.drop⟩)
theorem Jy (hT:W told)(hR:my told N B rv A pg)(b_:EI N B ε)(hN:1<=N)(hl:(pg ε 0).length=512)(hg:cJ (pg ε 0)=false)(s:Sat h (A ε::S)):
  Call ⟨Tryz.prog,told⟩ 95 [rv] h λv h'=>∃ah,v=.aV [.bool false,.int .i64 0]/\EI N B ah/\Sm N ε ah/\Sat h' (A ah::S):=by
 refine Call.of_wp (hT.free _ U) Tryz.func95 U U (zK 8 U (zc U (Ty hT hR b_ hN hl hg s) ?_));rintro v h ⟨ah,rfl,I,hs,s⟩;exact zk 17 U (WP.ret ⟨aa,_,U,ah,U,I,hs,s⟩)
end
def Bg : List Nat:=((List.replicate 375 0).set 0 1).set 0 3
theorem Tz : bt Bg j=decide (j<2):=by
 unfold bt Bg;by_cases h:j/8=0
 .have e:(((List.replicate 375 0).set 0 1).set 0 3).getD (j/8) 0=3:=by rw[h];decide +kernel
  have k:∀i,i<8->(3:Nat).testBit i=decide (i<2):=by decide
  rw[e,k _ (by omega)];by_cases I:j<2
  .rw[dZ I,dZ (by omega)]
  .rw[gh I,gh (by omega)]
 .have e:(((List.replicate 375 0).set 0 1).set 0 3).getD (j/8) 0=0:=by
   rw[th,lW (by omega),lW (by omega),List.getElem?_replicate];split<;>rfl
  rw[e,Nat.zero_testBit,gh (by omega)]
def GDn (N B kd:Nat)(ε ah:bk): Prop:=∃(dz:bk) (now:List (Int×List Nat)) (bj:Nat),EI N B dz/\Sm N ε dz/\NW N now/\(∀i:Int,2<=i->lookL i now=none)/\uC dz now kd 0 0 0 [] 0 bj 0 true ah
section
variable {told:cu} {h:H} {M p:Nat}
set_option maxHeartbeats 1000000 in
theorem TA (hB:B<=800)(b_:EI N B ε)(hN:4<=N)(Gr:N<=2999)(hz:(pgA ε 0).length=512)(hg:cJ (pgA ε 0)=false)(hd:xJ K M ε)(hf:K+1068<=M)(s:Sat h (SA a p q r .cf data aQ ε::S)):
  ∃v h2,(∃N0,∀n,N0<=n->toldDefer CB n 32 [.ptr a 0] h=some (v,h2))/\(v=.int .i64 0/\∃ah,EI N (B+2) ah/\fT N (List.replicate 64 0) Bg (pgA ah)/\xJ (K+1068) M ah/\Sat h2 (SA a p q r .cf data aQ ah::S)/\GDn N B 1 ε ah):=by
 have I:=W.base
 refine toldDefer_do (C:=CB) Lr U U (of_decide_eq_true (by kernel_rfl)) ?_
 refine WPd.seq (WPd.of_wp U (zr U (za U (zv (WPd.seq (WPd.of_wp U (zr U (zm U (zo U (oz U (mki_of zu U)) (zc U (Jy I (V5 I (by omega)) b_ (by omega) hz hg s) ?_))))))))))
 rintro v h ⟨dz,rfl,kD,ej,s⟩
 have hd:=hd.sm ej
 have s:Sat h (gM a p q r .cf data aQ::gE r p q dz.1::dF q p dz.2.1::bX p dz.2.2::S):=dx.1 s
 refine zk 5 U (zv (WPd.seq (WPd.of_wp U (WP.block (zg U (zm U (zh U (aq U U aE) (U) (za U (zv (zj U (zg U (zk 2 U (zv (zj U (WP.skip (WPd.seq (WPd.of_wp U (zr U (zm U (zc U (VI I s) ?_))))))))))))))))))))
 rintro v h' ⟨rfl,rfl⟩
 refine zc U (Eu I (s.ae [3])) ?_
 rintro v h' ⟨rfl,rfl⟩
 rw[kD.ec.dk.bG]
 refine za U (zv (WPd.seq (WPd.of_wp U (zr U (zm U (zc U (Cw I (n:=N) (by omega) (by omega)) ?_))))))
 rintro v h' ⟨rfl,rfl⟩
 refine za U (zv (WPd.seq (WPd.of_wp U (zr U (zm U (zc U (IU I s) ?_))))))
 rintro v h ⟨g,rfl,s⟩
 refine zk 5 U (zv (WPd.seq (WPd.seq (WPd.of_wp U (zr U (zm U (zh U (aq U U aE) (U) (zv (WPd.of_wp U (zj U (WP.skip (WPd.seq (WPd.defer U U U U U U U U U U U U (WPd.seq (WPd.seq (WPd.of_wp U (zr U (zk 2 U (zb U (by exact aM ak) ?_)))))))))))))))))))
 refine zC U aK (by simp;omega) ?_
 have s:Sat h (GA g a p q r data aQ [] dz::S):=dx.2 s
 refine zv (WPd.of_wp U (zj U (WP.skip (WPd.seq (WPd.seq (WPd.of_wp U (WP.drawn [some (0,5),some (0,4),af,af,af,af,af,af] U (by kernel_rfl) (by kernel_rfl) ?_)))))))
 refine zM U (zM U (aB.any U U U U (OpR.call U U U U (Lu I s)) ?_))
 intro mv h s
 refine aB.any U U U U (OpR.FU U s U U U U (by decide)) ?_
 intro zbv h s
 have s:=s.fh
 have TB:(List.replicate 64 0).length=64:=f_
 have hm:=(s.aD (k:=1) U (bC _ _)).cells
 have hzc:=(s.aD (k:=0) U (bC _ _)).cells
 obtain⟨cv,h1,e1,s1⟩:=OD (P:=Tryz.prog) (x:=mv) (y:=zbv) s aO lQ dQ U hm.1 hzc.1 hm.2 hzc.2
 refine aB.any U U U U (OpR.of (R:=λv h'=>v=cv/\h'=h1) (iZ U e1) ⟨U,U⟩) ?_
 rintro cv h ⟨rfl,rfl⟩
 have s:=(s1.ae [2,1]).two (C:=each (λv c=>.cG v c) [mv,zbv] [ji,List.replicate 64 0]) (bf.cG _ _) (bf.cG _ _) λa b q1 q2=>⟨q1,q2,aa⟩
 generalize hR:List.replicate 64 0=R at s TB
 refine aB.any U U U U (OpR.call U U U U (OF (kd:=201) (lk:=N) I (by decide) (by omega) (by simp only[tot,ji,aX,bY,TB];decide) U s)) ?_
 rintro u h ⟨b0,m8,s⟩
 refine aB.any U U U U (OpR.call U U U U (Qo (i:=0) I (by omega) kD (NW.nil N) (by omega) (s.ae [1,0]) (bg _ _) m8)) ?_
 rintro v h ⟨ij,rfl,nY,jZ,X7,s⟩
 have hd:=hd.sm jZ
 refine zA U ?_
 refine aB.nil ⟨⟨λ_ _=>.inr ⟨U,⟨_,bZ U⟩,bp _ U⟩,λ_ _=>.inr ⟨U,⟨_,bZ U⟩,bp _ U⟩,aa,aa,aa,aa,aa,aa,aa⟩,?_⟩
 refine WPd.seq (WPd.of_wp U (zr U (zm U (zh U (aq U U aE) (U) (zv (WPd.of_wp U (zj U (WP.skip (WPd.seq (WPd.seq (WPd.of_wp U (zr U (za U (zv (WPd.of_wp U (WP.block (WP.loop (zw (zg U (zk 2 U (zt U (aq U U aK) (by decide) ?_)))))))))))))))))))))
 refine zv (zi U (WP.skip (zw (WP.block (zg U (au.any U U U (OpR.FU U s U U U U (by decide)) ?_))))))
 intro mk h s
 have We:(List.replicate 375 0).length=375:=f_
 have yL:(List.replicate 375 0)[0]?=some 0:=by decide +kernel
 have Gd:Bg.length=375:=by unfold Bg;rw[cL,cL,We]
 have TC:Bg=((List.replicate 375 0).set 0 1).set 0 3:=rfl
 have Cx:∀j,bt Bg j=decide (j<2):=λj=>Tz
 generalize Bg=M0 at Gd TC Cx ⊢
 generalize List.replicate 375 0=Z at s We yL TC
 obtain⟨id,off,e2,e3⟩:=eU (s.buf (k:=0) U).view yL
 obtain⟨r8,oX,e4,h4,e5,s2⟩:=oP s (i:=0) (b:=1) (by omega) (by decide)
 have ee:V.ptr id off=V.ptr r8 oX:=by rw[e2] at e4;exact bB e4
 rw[<-ee] at e5
 refine zk 8 U (WP.block (WP.loop (zg U (zB U aK (by decide) ?_))))
 refine zk 5 U (WP.block (zK 8 U (zo U (aq (r:=.int .i64 0) U U (by kernel_rfl)) ?_)))
 refine zm U (zb U (by exact dM ak) ?_)
 refine zB U cS (by decide) ?_
 refine zk 2 U (WP.drawn [af,af,af,af,af,af,af,af,af,af,af,af] U (by kernel_rfl) (by kernel_rfl) ?_)
 refine zM U (zM U (zO U (aq (r:=.int .i64 0) U U (by kernel_rfl)) ?_))
 refine zO U (aq (r:=.int .i64 0) U U (by kernel_rfl)) ?_
 refine zO U (bM (r:=.ptr id off) U U e2) (zL U e3 (zM U (zO U (aq (r:=.int .i64 0) U U (by kernel_rfl)) ?_)))
 refine zO U (aq (r:=.int .u8 1) U U (by kernel_rfl)) ?_
 refine zO U (aq (r:=.int .u8 1) U U (by kernel_rfl)) ?_
 refine zO U (bM (r:=.ptr id off) U U e2) (aB.lP U U U (OpR.yU U U U (⟨h4,e5,s2⟩)) ?_)
 rintro w h ⟨rfl,s⟩
 refine aB.nil ⟨⟨aa,aa,aa,aa,aa,aa,aa,aa,aa,aa,aa,aa,aa⟩,?_⟩
 have DW:(Z.set 0 1)[0]?=some 1:=jN (by omega)
 have wD:(Z.set 0 1).length=375:=by rw[cL,We]
 obtain⟨id5,Wf,e6,e7⟩:=eU (s.buf (k:=0) U).view DW
 obtain⟨id6,aeh,e8,h7,e9,s3⟩:=oP s (i:=0) (b:=3) (by omega) (by decide)
 have ee:V.ptr id5 Wf=V.ptr id6 aeh:=by rw[e6] at e8;exact bB e8
 rw[<-ee] at e9
 refine zr U (zb U (by exact aM ak) ?_)
 refine zm U (zv (WP.loop (zg U (zt U (aq U U aK) (by decide) ?_))))
 refine zk 5 U (WP.block (zK 8 U (zo U (aq (r:=.int .i64 0) U U (by kernel_rfl)) ?_)))
 refine zm U (zb U (by exact dM ak) ?_)
 refine zB U cS (by decide) ?_
 refine zk 2 U (WP.drawn [af,af,af,af,af,af,af,af,af,af,af,af] U (by kernel_rfl) (by kernel_rfl) ?_)
 refine zM U (zM U (zO U (aq (r:=.int .i64 1) U U (by kernel_rfl)) ?_))
 refine zO U (aq (r:=.int .i64 0) U U (by kernel_rfl)) ?_
 refine zO U (bM (r:=.ptr id5 Wf) U U e6) (zL U e7 (zM U (zO U (aq (r:=.int .i64 1) U U (by kernel_rfl)) ?_)))
 refine zO U (aq (r:=.int .u8 2) U U (by kernel_rfl)) ?_
 refine zO U (aq (r:=.int .u8 3) U U (by kernel_rfl)) ?_
 refine zO U (bM (r:=.ptr id5 Wf) U U e6) (aB.lP U U U (OpR.yU U U U (⟨h7,e9,s3⟩)) ?_)
 rintro w h ⟨rfl,s⟩
 refine aB.nil ⟨⟨aa,aa,aa,aa,aa,aa,aa,aa,aa,aa,aa,aa,aa⟩,?_⟩
 rw[<-TC] at s
 refine zr U (zb U (by exact aM ak) ?_)
 refine zm U (zv (WP.loop (zg U (zh U (aq U U aK) (by decide) ?_))))
 refine zk 3 U (WP.exit (zK 5 U ?_))
 have s:=s.fh
 have uY:=(s.aD (k:=0) U (bC _ _)).cells
 obtain⟨zZ,h8,e10,s4⟩:=kY (P:=Tryz.prog) (k:=1) (x:=mk) s aO lQ dQ U (by decide) (by decide) (by rw[uY.1];rfl) (by rw[uY.1];simp only[mG,nE,uY.2];rfl)
 rw[uY.1] at s4
 refine au.any U U U (OpR.of (R:=λv h'=>v=zZ/\h'=h8) (iZ U e10) ⟨U,U⟩) ?_
 rintro zZ h ⟨rfl,rfl⟩
 have s:=(s4.ae [1]).eD (B:=each (λv c=>.cG v c) [mk] [M0]) λa b q=>⟨q,aa⟩
 dsimp only[aL,bringA] at s
 refine zc U (OF (kd:=202) (lk:=0) I (by decide) (by decide) (by simp only[tot,aX,bY,Gd];decide) U s) ?_
 rintro u h ⟨b1,lD,s⟩
 refine zc U (Qo (i:=1) I (by omega) nY X7 (by omega) (s.ae [1,0]) (bg _ _) lD) ?_
 rintro v h ⟨kQ,rfl,xF,r9,zV,s⟩
 dsimp only[aL,bringA] at s
 have hd:=hd.sm r9
 refine za U (zv (zg U (zm U (zh U (aq U U aE) (U) (zv (zj U (WP.skip (zr U (zm U (zb U (by exact aM ak) ?_))))))))))
 refine zk 2 U (WP.loop (zK 5 U (zC U aK (by decide) ?_)))
 refine zk 2 U (WP.exit (WPd.seq (WPd.of_wp U (zK 2 U (zo U (cI U (vB (kd:=1))) (zc U (Jb (kd:=1) (L:=2) I (by omega) xF zV (c_ gy (Nat.succ_le_succ gy)) (by omega) (by decide) (by decide) (by decide) hd hf s) ?_))))))
 rintro v h ⟨bj,qP,rfl,TD,eA,SX,s,XW⟩
 have gD:fT N R M0 (pgG (cD ((1:Nat):Int) b1 (cD ((0:Nat):Int) b0 [])) kQ):=by
  refine⟨⟨0,?_⟩,TB,⟨202,0,0,?_⟩,Gd,by omega,by omega,λj hj=>by rw[Cx,dZ hj],λj hj=>by rw[Cx,gh (by omega)]⟩
  .rw[eY,ai (by decide),eY,ay (by decide)];exact m8
  .rw[eY,ay (by decide)];exact lD
 refine zk 4 U (zv (WPd.seq (WPd.of_wp U (zr U (zk 2 U (zv (WPd.of_wp U (WP.ret ?_))))))))
 have s:=s.ae [1]
 have s:=dx.1 s
 have s:=s.ae [4]
 obtain⟨v2,h2,RP,rfl,s⟩:=P4 I s
 have s:=s.ae [1,1,1,1]
 have s:Sat h2 (SA a p q r .cf data aQ qP::_):=dx.2 s
 have hdn:ue 20=none:=I.free _ U
 exact⟨aa,h2,_,M8 (C:=CB) hdn Tryz.func20 U U RP,xW U,U,qP,TD,gD.done zV eA,SX,((s.del 3).del 2).del 1,kQ,_,bj,xF,(ej.trans jZ).trans r9,zV,λi hi=>by rw[mP,ai (by omega),mP,ai (by omega)];rfl,XW⟩
end
section
variable {told:cu} {h:H} {v x:V} {l:List Nat}
def z6 (f:Nat->Bool)(k:Nat): List Nat:=(List.range k).filter f
theorem LR {f:Nat->Bool}: z6 f (k+1)=if f k then z6 f k++[k] else z6 f k:=by
 grind[z6,List.range_succ]
theorem Ie {f:Nat->Bool}: (z6 f k).length<=k:=by
 grind[z6]
theorem ET (s:Sat h (.arr 1 v (cC l)::S))(hl:l.length<=1048576):
  ∃I h1 w h2,buildSliceV Tryz.prog h 25 1 [(0,.int .i64 (k:Int))]=some (I,h1)/\appendV Tryz.prog h1 #[25,25] v I=some (w,h2)/\Sat h2 (.arr 1 w (cC (l++[k]))::S):=by
 obtain⟨I,h1,e1,s1⟩:=kY (P:=Tryz.prog) (k:=1) (x:=.int .i64 (k:Int)) s dm BW lI U (by decide) (by decide) U U;obtain⟨i1,c9,fc,pP⟩:=Ay;obtain⟨w,h2,e2,s2⟩:=iw (s1.ae [1,0]) dm c9 BW fc (by omega) U (by decide) (by simp only[jy,V.cells,aX,bY];omega);refine⟨I,h1,w,h2,e1,e2,?_⟩;have e:cC (l++[k])=cC l++[.int .i64 (k:Int)]:=by simp[cC]
 rw[e];exact s2.del 1
noncomputable def usL : Code:=cX [1,1,1,1,0,1,0,0,1,1,0,0,1,1,1,1,0,0] ((Tryz.f28.body).getD .skip)
theorem TE (hT:W told)(ou:M.length=375)(hn:n<=3000): ∀(m k:Nat) (v:V) (h:H) (E:List (Nat×V)) (Q:Ex->List (Nat×V)->H->Prop),k+m=n ->
  Sat h (.arr 1 v (cC (z6 (bt M) k))::aY u M::S)->Has E [(7,v),(8,.int .i64 0),(10,u),(24,.int .i64 1),(25,.int .i64 0),(42,.int .i64 (n:Int)),(43,.int .i64 (k:Int))] ->
  (∀v' E' h',Has E' [(7,v'),(24,.int .i64 1),(25,.int .i64 0)]->Sat h' (.arr 1 v' (cC (z6 (bt M) n))::aY u M::S)->Q (.exit 2) E' h')->WP ⟨Tryz.prog,told⟩ 70 (.loop usL) E h Q:=by
 intro m;induction m with
 |zero =>
  intro k v h E Q hk s hE hq;refine WP.loop (WP.has hE (zg U (zC U aK (by simp;omega) ?_)));refine zk 3 U (WP.exit ?_);obtain rfl:k=n:=by omega
  exact hq v _ _ ⟨U,U,U,aa⟩ s
 |succ m ih =>
  intro k v h E Q hk s hE hq;have hb:M[k/8]?=some (M[k/8]'(by omega)):=aF _;have qL:M.getD (k/8) 0=M[k/8]'(by omega):=by rw[th,hb];rfl
  generalize (M[k/8]'(by omega))=x at hb qL;have hv:=(s.buf (k:=1) U).view;have hx:x<256:=hv.1 x (aI hb);have Cx:x.testBit (k%8)=bt M k:=by rw[bt,qL]
  obtain⟨id,off,e1,e2⟩:=eU hv hb;have xk:x/2^(k%8)<256:=G9 (Ho _ _) hx;have ou:=Ie (f:=bt M) (k:=k);refine WP.loop (WP.has hE (zg U (zB U aK (by simp;omega) ?_)));refine zk 5 U (WP.block (zK 9 U (zb U (xE (a:=k) (b:=8) (by decide) (by omega)) ?_)));refine zo U (bM (r:=.ptr id off) U U e1) (zl U e2 (zm U (zb U (Az (a:=k) (b:=8) (by decide)) ?_)));refine zb U (Td (a:=x) (k:=k%8) (by omega)) ?_;refine zb U (Te (b:=1) xk (by decide)) ?_;cases I:bt M k with
  |true =>
   refine zB U LB (Cx.trans I) (zk 5 U (zb U (by exact iO ak) ?_));refine zm U (zb U (by exact aM ak) ?_);obtain⟨iv,h1,w,h2,e3,e4,s2⟩:=ET (k:=k) s (by omega);have ek:(3000:Int)*0+(k:Int)=(k:Int):=by omega
   rw[ek];refine au.any U U U (OpR.of (R:=λv h'=>v=iv/\h'=h1) (iZ U e3) ⟨U,U⟩) ?_;rintro iv h1 ⟨rfl,rfl⟩;refine au.any U U U (OpR.of (R:=λv h'=>v=w/\h'=h2) (jc U U e4) ⟨U,U⟩) ?_;rintro w h2 ⟨rfl,rfl⟩;refine za U (zv (zr U (zb U (by exact aM ak) ?_)));refine zm U (zv ?_);exact ih (k+1) _ _ _ Q (by omega) (by rw[LR,I,ay U];exact s2) ⟨U,U,U,U,U,U,U,aa⟩ hq
  |false =>
   refine zh U (aq U U LB) (Cx.trans I) (zv (zj U (WP.skip (zr U (zb U (by exact aM ak) ?_)))));refine zm U (zv ?_);exact ih (k+1) _ _ _ Q (by omega) (by rw[LR,I,ai (by decide)];exact s) ⟨U,U,U,U,U,U,U,aa⟩ hq
theorem Wg (hT:W told)(hR:my told N B rv A pg)(b_:EI N B ε)(hN:2<=N)(hp:fT n R M (pg ε))(s:Sat h (A ε::S)):
  Call ⟨Tryz.prog,told⟩ 28 [rv] h λv h'=>∃w ah,v=.aV [w,.int .i64 0]/\EI N B ah/\Sm N ε ah/\Sat h' (.arr 1 w (cC (z6 (bt M) n))::A ah::S):=by
 obtain⟨ex,tc⟩:=hp.head;obtain⟨kd,lk,sC,I⟩:=hp.marks;have hM:=hp.ml;have qp:=hp.n2;have wB:=hp.n1;have ou:=Ie (f:=bt M) (k:=n);refine Call.of_wp (hT.free _ U) Tryz.func28 U U (zK 8 U (zc U (ZF hT hR b_ (by omega) tc hp.rl s) ?_));rintro v h ⟨u,dz,rfl,kD,ej,s⟩;refine zk 12 U (zC U aE (U) (zk 11 U (zc U (Cw hT (by omega) (by omega)) ?_)));rintro v h' ⟨rfl,rfl⟩;refine zb U (by exact dM ak) ?_;refine zk 2 U (WP.block (WP.loop (zg U (zB U aK (by decide) ?_))));have I:fy (pg dz 1) kd lk sC [M]:=by rw[hR.same ej];exact I
 refine zk 5 U (WP.block (zK 9 U (zc U (V1 hT hR kD hN I hM (s.ae [1])) ?_)));rintro v h ⟨w2,u2,ij,rfl,nY,jZ,s⟩;refine zk 12 U (zC U aE (U) (zk 7 U (zb U (by exact iO ak) ?_)));refine zb U (by exact dM ak) ?_;have em:min (3000:Int) ((n:Int)-3000*0)=(n:Int):=by omega
 refine zo U (KB (r:=.int .i64 (n:Int)) U U (abB.trans (by rw[em]))) ?_;refine zk 2 U (WP.block ?_);have s:=s.lJ (k:=1);refine TE hT hM (by omega) n 0 _ _ _ _ (by omega) s ⟨U,U,U,U,U,U,U,aa⟩ (λv' E' h' hE s' => ?_);have s:=s';refine WP.has hE (zr U (zb U (by exact aM ak) ?_));refine zm U (zv (WP.loop (zg U (zh U (aq U U aK) (by decide) ?_))));refine zk 3 U (WP.exit (zK 3 U (zo U (aC U U U (s.fq (n:=(z6 (bt M) n).length) (j:=0) U (by rw[jy,cH]) (by decide) dm)) ?_)));obtain⟨i1,c9,fc,pP⟩:=Ay;obtain⟨wv,h1,e3,s1⟩:=B1 (P:=Tryz.prog) s dm c9 BW fc (by omega) U (by decide) (by decide) (n:=0) (c:=(z6 (bt M) n).length) (by omega) (by omega);refine au.any U U U (OpR.of (R:=λv h'=>v=wv/\h'=h1) (Ak U U e3) ⟨U,U⟩) ?_;rintro w0 h ⟨rfl,rfl⟩;have s:Sat h (.arr 1 w0 []::_):=s1;obtain⟨w3,h2,e4,s2⟩:=iw s dm c9 BW fc (by omega) U (by decide) (by simp only[jy,bY];omega);rw[dJ] at s2;refine zm U (au.any U U U (OpR.of (R:=λv h'=>v=w3/\h'=h2) (jc U U e4) ⟨U,U⟩) ?_);rintro w3 h ⟨rfl,rfl⟩;exact zk 3 U (WP.ret ⟨aa,_,U,_,ij,U,nY,ej.trans jZ,(((((s2.ae [0,3]).del 5).del 4).del 3).del 2)⟩)
end
section
variable {h:H} {v c x:V} {cs:List V}
theorem sZ (s:Sat h (.arr 1 v cs::S))(hi:i<cs.length)(hx:x.cells=[x])(eO:storable x=true)(hu:P.underlying t=some (.slice te))(pY:bq P te=some 1):
  ∃id off h',indexAddrV P t v (.int .i64 (i:Int))=some (.ptr id off)/\j7 P h te (.ptr id off) x=some h'/\Sat h' (.arr 1 v (cs.set i x)::S):=by
 have fb:cs≠[]:=λe=>by rw[e] at hi;simp at hi
 have I:=s.JM (j:=0) U;obtain⟨id,m,cap,M,rest,rfl,hl,hM,s1,hc⟩:=s.Y2 fb;rw[cH] at hl;obtain⟨h',e1,e2⟩:=s1.kz (P:=P) (t:=te) (k:=0) (off:=i) (v:=x) U pY (by rw[aN,hM]) (by omega) hx eO;refine⟨id,i,h',?_,e1,hc h' (cs.set i x) S (cL) ?_ ?_⟩
 .simp only[indexAddrV,hu,pY,fS];rw[show(decide ((0:Int)<=(i:Int))&&decide ((i:Int)<(m:Int)))=true by simp;omega,ag];simp
 .rw[nB] at I ⊢;intro y hy;rcases mD hy with hy|rfl
  .exact I y hy
  .exact eO
 .have e3:(cs++rest).set i x=cs.set i x++rest:=List.set_append_left _ _ hi;dsimp only[setA] at e2;rw[e3] at e2;exact e2
end
section
variable {P:Int->List Nat}
theorem Nv.aei (hN:Nv F P l lo hi cs es ps)(I:486<cB cs)(h2:cB cs<=if l=0 then 715 else 590): ∃k,mo cs (min 2 (l+1)) k:=by
 have hc:=hN.cells;cases l with
 |zero=>exact VT (λc h=>by have:=(hc c h).2.1;omega) I h2
 |succ l =>
  have e:min 2 (l+1+1)=2:=by omega
  rw[e];rw[ai (by omega)] at h2;exact Lh (λc h=>by have:=(hc c h).2.2 (by omega);omega) I (by omega)
theorem mo.parts (h:mo cs (min 2 (l+1)) k): ∃c,cs[k]?=some c/\(∀Z,cU Z l (cs.take k))/\(∀Z,cU Z l (rgtC l (cs.drop k)))/\cB (cs.take k)<=486/\cB (rgtC l (cs.drop k))<=486/\1<=k/\k<cs.length:=by
 have hk:=h.k2;have wD:=h.l1;have iJ:=h.l2;have I:=h.s2;obtain⟨c,t,hd⟩:∃c t,cs.drop k=c::t:=by
  cases q:cs.drop k with
  |nil=>have:=dg List.length q;rw[fD,bY] at this;omega
  |cons c t=>exact⟨c,t,U⟩
 have hlen:(cs.drop k).length=cs.length-k:=fD;refine⟨cs[k],aF hk,λZ => ?_,λZ => ?_,h.s1,?_,h.k1,hk⟩
 .unfold cU;split
  .exact G0 (by rw[cz];have:=h.k1;omega)
  .rw[cz];exact .inl (by omega)
 .unfold cU rgtC;split
  .rw[hd];simp
  .rw[hd] at hlen ⊢;simp only[aX] at hlen ⊢;exact .inl (by omega)
 .unfold rgtC;split
  .exact I
  .rw[hd] at I ⊢;simp only[cB,tot,hU,yD,aX,cz] at I ⊢;omega
end
def lam (L:Nat)(cs:List (List Nat)): Nat:=if L=0 then 486 else 374*L+cB cs
theorem bH.uniq {k' lk' e e':Nat}(h:bH b k lk e cs)(h':bH b k' lk' e' cs'): cs=cs':=by
 have hl:cs.length=cs'.length:=by rw[<-h.gq,<-h'.gq]
 apply ny ;intro i;cases hc:cs[i]? with
 |none=>rw[Nj] at hc;rw[rB (by omega)]
 |some c =>
  have hi:=(List.getElem?_eq_some_iff.1 hc).1;have I:cs'[i]?=some (cs'[i]'(by omega)):=aF _;rw[I];obtain⟨_,_,s2,s3⟩:=h.slot i c hc;obtain⟨_,_,r2,r3⟩:=h'.slot i _ I;congr 1;apply ny;intro j;by_cases hj:j<c.length
  .rw[<-s3 j hj,<-r3 j (by omega)]
  .rw[rB (by omega),rB (by omega)]
theorem Wh {Z:List Nat}{P:Int->List Nat}{m z:Nat}(hN:Nv (cU Z) P l [] none cs es ps)(h1:1<=k)(hc:cs[k]?=some c)(uW:cU Z l (cs.take k))(I0:cU Z l (rgtC l (cs.drop k)))
 (u7:bH (P' m) 204 0 l (cs.take k))(Ba:bH (P' z) 204 0 l (rgtC l (cs.drop k)))(I:∀q∈ps,P' (q:Nat)=P q)(hm:m<4294967296)(hz:z<4294967296):
  ∃nU nV,ps=nU++nV/\Nv (cU Z) P' (l+1) [] none [ff m [],ff z (fM l c)] es (m::(nU++z::nV)):=by
 obtain⟨kN,gL,nU,nV,rfl,rfl,q1,q2,q3,_,q5,q6⟩:=hN.cut h1 hc;exact⟨nU,nV,U,Nv.two (q1.frame λq hq=>I q (fA _ hq)) uW u7 (q2.frame λq hq=>I q (jt _ hq)) I0 Ba q3 ⟨q5,q6⟩ hm hz⟩
section
variable {told:cu} {h:H} {Ya Yb gv pv v1 vz:V} {vs:List V} {c':List Nat} {ds t:List (List Nat)}
theorem Jc {v:V}{b d:Nat}(I:a<=b)(hb:b<=d)(hc:d<=c.length)(hl:1<=c.length): cy (oh v c) (oh (slR3 v a b d) ((c.take b).drop a)):=λ_ _ h=>ViewM.slice3 h I hb hc hl
theorem EU (s:Sat h (oh u c'::dn vs (c::t)::S)): Sat h (dn (vs.set 0 u) (c'::t)::S) :=
 s.two (bf.cG _ _) (bf.qO _ _) λm r a b=>by
  cases vs with
  |nil=>exact b.elim
  |cons z vs=>exact⟨a,b.2⟩
theorem LS {b d:Nat}{v:V}{l:List Nat}(hv:View h v l)(I:b<=d)(hc:d<=l.length)(hl:1<=l.length): sliceV Tryz.prog h 29 v none (some b) (some d)=some (slR3 v 0 b d):=by
 rw[<-uc (h:=h) hv (gG b) I hc hl];rcases hv.2 with⟨_,rfl⟩|⟨id,off,cap,n,cs,st,rfl,hg,h1,h2,h3,h4⟩
 .simp at hl
 .cases cap<;>simp only[sliceV,aP,fC,dw]
theorem Wi {t:TypeId}(hu:P.underlying t=some (.slice e))(hz:zeroT P e=some z)(hk:bq P e=some 1)(hl:z.cells.length=1)(I:u.cells=[u])(eO:storable u=true): buildSliceV P h t 1 [(0,u)]=some (.sl h.next 0 1 (.exact 1),h.new (.cells 1 [u] false)):=by
 have k1:u.cells.length=1:=by rw[I];rfl
 have k2:u.cells.all storable=true:=by rw[I];simp[eO]
 have:buildSliceV P h t 1 [(0,u)]=some (.sl h.next 0 1 (.exact 1),newRow h u.cells):=by
  grind[buildSliceV,repeatL,fillV,Nat.beq_refl,aR]
 rw[this,I];rfl
theorem TF (I:WI told){y:Nat}{v:V}(s:Sat h (Cz v us::pt y (.cells 1 [u] false)::S))(hu:storable u=true)(hi:i<=us.length)(hl:us.length<=512):
  Call ⟨Tryz.prog,told⟩ 52 [v,.int .i64 (i:Int),.sl y 0 1 (.exact 1)] h λr h'=>Sat h' (.arr 1 r (dh i u us)::S):=by
 rcases CY hi with hi|rfl
 .exact(ZM I s hu hi hl).mono λr h' s=>s.eD k8
 .have s:=(s.eD k8).ae [1];have s:Sat h (.arr 1 (.sl y 0 1 (.exact 1)) [u]::_):=s.eD λm r h=>⟨by simp[hu],.inr ⟨y,1,.exact 1,1,[],U,h,U,U,U,U,aH _⟩⟩;have s:=s.ae [1];have e:dh us.length u us=us++[u]:=by simp[dh]
  rw[e];exact Tt I s hl
theorem OG (s:Sat h (oh u c::dn us cs::S)): Sat h (dn (dh i u us) (dh i c cs)::S) :=
 s.two (bf.cG _ _) (bf.qO _ _) λm r a b=>Au (CD i b) ⟨a,CE i b⟩
theorem uf {P:Int->List Nat}: ∀ {fx:Fx} {l:Nat},(∀e∈fx,P' (e.2.pg:Int)=P e.2.pg)->nodsA P' l fx=nodsA P l fx:=by
 intro fx;induction fx with
 |nil=>intro l _;rfl
 |cons e t I =>
  intro l he;simp only[nodsA];rw[he e a_,I λe' h'=>he e' (bw _ h')]
theorem gW.Yc {P:Int->List Nat}: ∀ {fs:List sU} {l:Nat} {lo:Ky} {hi:Option Ky} {n:Nat} {eL eR:List En} {pO:List Nat},gW F P L r fs l lo hi n eL eR pO->∀f∈fs,f.pg∈pO:=by
 intro fs;induction fs with
 |nil=>intro _ _ _ _ _ _ _ _ f hf;cases hf
 |cons f fs ih =>
  rintro l lo hi n eL eR pO ⟨fZ,eN,m9,jh,iW,kk,h1,_,_,_,_,_,_,_,_,_,_,rfl⟩ g I;rcases List.mem_cons.1 I with rfl|I
  .exact a_
  .exact bw _ (fA _ (ih h1 g I))
noncomputable def spC : Code:=cX [1,1,1,1,1,1,1,1,1,0] ((Tryz.f54.body).getD .skip)
theorem abJ (hT:W told)(jK:∀c∈ds,iT l c)(fb:1<=ds.length)(hl:l<=64){Q:Ex->List (Nat×V)->H->Prop}(s:Sat h (.arr 1 bv vs::dn vs ds::pt x (.cells 4 (uZ n l Ya Yb) false)::S))
 (hE:Has E [(0,gv),(1,pv),(7,.ptr x 0),(10,v1),(11,bv),(12,vz),(14,kv)])
 (hq:∀E' h' vs',Has E' [(0,gv),(1,pv),(7,.ptr x 0),(10,v1),(11,bv),(12,vz),(14,kv)]->Sat h' (.arr 1 bv vs'::dn vs' (rgtC l ds)::pt x (.cells 4 (uZ n l Ya Yb) false)::S)->Q .normal E' h'): WP ⟨Tryz.prog,told⟩ 196 spC E h Q:=by
 obtain⟨c,t,rfl⟩:∃c t,ds=c::t:=by
  cases ds with
  |nil=>simp at fb
  |cons c t=>exact⟨c,t,U⟩
 refine WP.has hE (zK 4 U (zY s 2 ew bT U ?_));by_cases h0:l=0
 .subst h0;refine zC U cP (by simp) ?_;refine zv (zj U (WP.skip ?_));exact hq _ _ vs ⟨U,U,U,U,U,U,U,aa⟩ s
 .have I:=jK c a_;rw[iT,ai h0] at I;obtain⟨u,id,off,e1,e2,_,s⟩:=xG (P:=Tryz.prog) (i:=0) (jg _ _ _).s U aO dQ b8 s;have hv:=s.aD (k:=2) U (bC _ _);have IJ:=LS (b:=4) (d:=4) hv (aH _) I (by omega);have s:=(s.ae [2]).eD (Jc (a:=0) (b:=4) (d:=4) (by omega) (by omega) I (by omega));have Jd:=(s.aD (k:=0) U (bC _ _)).cells;have s:=s.ae [1];obtain⟨wz,LU,h2,e3,e4,s2⟩:=sZ (P:=Tryz.prog) (i:=0) (x:=slR3 u 0 4 4) s (by have:=kj (s.ae [2]);simp only[aX] at this;omega) Jd.1 Jd.2 aO dQ;have s2:=EU (s2.ae [1,1]);have s2:=s2.ae [1];refine zB U cP (by simp;omega) ?_;refine zk 5 U (zo U (bM (r:=.ptr id off) U U e1) (zl U e2 (zo U (bK (p:=none) (q:=some (.int .i64 4)) (m:=some (.int .i64 4)) (p':=none) (q':=some 4) (m':=some 4) U U U U U U U IJ) (zo U (bM (r:=.ptr wz LU) U U e3) (zS U (⟨_,e4,s2⟩) ?_)))));intro h s;refine zv ?_;have hrg:rgtC l (c::t)=c.take 4::t:=by rw[rgtC,ai h0]
  exact hq _ _ (vs.set 0 (slR3 u 0 4 4)) ⟨U,U,U,U,U,U,U,aa⟩ (by rw[hrg];exact s)
end
section
variable {told:cu} {p root:Nat} {ot:List Nat}
def yf (L root:Nat)(P:Int->List Nat)(A:Nat)(cs:List (List Nat)): Fx->Prop
 |[]=>lam L cs<=A
 |_::_=>∀c,bH (P root) 204 0 L c->lam L c+104<=A
theorem yf.fin {A:Nat}{P:Int->List Nat}{c:List (List Nat)}{t:Fx}(h:yf L r P A cs t)(I:bH (P r) 204 0 L c)(he:t.map (·.2)=[]->c=cs): lam L c<=A:=by
 cases t with
 |nil=>rw[he U];exact h
 |cons e t=>exact c_ (C0 _ _) (h c I)
theorem yf.up {A:Nat}{P:Int->List Nat}{c0:List (List Nat)}{t:Fx}(h:∀c,bH (P r) 204 0 L c->lam L c+104<=A)(hp:bH (P n) 204 0 l c0)(hr:t.map (·.2)=[]->l=L/\n=r)(hs:t.map (·.2)≠[]->P' r=P r)(hle:lam l cs<=lam l c0+104): yf L r P' A cs t:=by
 cases t with
 |nil =>
  obtain⟨rfl,rfl⟩:=hr U;exact c_ hle (h c0 hp)
 |cons e t=>intro c I;rw[hs (by simp)] at I;exact h c I
theorem ZR (hi:i<=cs.length)(I:c.length<=100): lam l (dh i c cs)<=lam l cs+104:=by
 unfold lam;split
 .omega
 .rw[cB,cB,wM,lu hi];omega
def SpR (N B g a p q r aQ root:Nat)(data R ot:List Nat)(ε:bk)(now:List (Int×List Nat))(Z:List Nat)(A L:Nat)(es:List En)(gq nl:Nat)(S:List aG)(v:V)(h':H): Prop:=∃ah aJ,EI N B ah/\Sm N ε ah/\NW N aJ/\aJ.length<=nl/\Sat h' (GA g a p q r data aQ aJ ah::S) /\
 ((v=.int .i64 7/\N<=gq)\/v=.int .i64 0/\∃M' L' cs' I,fT N R M' (pgG aJ ah)/\jo N M' ((root::I)++ot)/\Nv (cU Z) (pgG aJ ah) L' [] none cs' es I/\bH (pgG aJ ah root) 204 0 L' cs'/\(L'<=L+1/\lam L' cs'<=A)/\∀m∈ot,pgG aJ ah m=pgG now ε m)
theorem Sat.skip {A:aG}{h:H}: ∀(k:Nat) {S:List aG},Sat h (A::S)->Sat h (A::S.drop k):=by
 intro k;induction k with
 |zero=>intro S s;exact s
 |succ k I=>intro S s;cases S with
  |nil=>exact s
  |cons B S=>exact I (S:=S) (s.del 1)
set_option maxHeartbeats 1000000 in
theorem Wj (hT:WI told)(hB:B<=2000)(hN:N<=2999): ∀(m:Nat) (fx:Fx) (l x n i:Nat) (lo:Ky) (hi:Option Ky) (eL eR:List En) (pO:List Nat) (cs LV:List (List Nat)) (b0:List Nat) (es:List En) (ps:List Nat) (v w:V) (us:List V) (ε:bk) (now:List (Int×List Nat)) (M:List Nat) (Z:List Nat) (A L:Nat) (h:H) (S:List aG),
  fx.length<m->EI N B ε->NW N now->fT N R M (pgG now ε)->jo N M ((pO++n::ps)++ot)->gW (cU Z) (pgG now ε) L root (fx.map (·.2)) l lo hi n eL eR pO->Nv (cU Z) (pgG now ε) l lo hi cs es ps->486<cB cs->cB cs<=(if l=0 then 715 else 590)->fx.length+l=L->L<=60->yf L root (pgG now ε) A cs fx ->
  Sat h (GA g a p q r data aQ now ε::roS 1 v us::dn us cs::wyA w (eT fx++[(x,i)])::aW x n l b0 LV::nodsA (pgG now ε) (l+1) fx::S) ->
  Call ⟨Tryz.prog,told⟩ 54 [.ptr g 0,w,v] h (SpR N B g a p q r aQ root data R ot ε now Z A L (eL++es++eR) (((pO++n::ps)++ot).length+fx.length+3) (now.length+4*fx.length+7) S):=by
 have hW:=hT.w
 intro m
 induction m with
 |zero=>intro fx l x n i lo hi eL eR pO cs LV b0 es ps v w us ε now M Z A L h S hm;exact absurd hm (vG _)
 |succ m ih =>
  intro fx l x n i lo hi eL eR pO cs LV b0 es ps v w us ε now M Z A L h S hm b_ hw gD kW nM jM Cg y_ hL LW hA s
  have gn:=jM.cells
  obtain⟨k0,By⟩:=jM.aei Cg y_
  have aej:=By.k2
  have afA:=By.k1
  have kU:cs.length<=512:=by
   have:cB cs<=715:=by split at y_<;>omega
   rw[ku] at this
   omega
  have uG:(eT fx).length=fx.length:=by rw[eT,ju,cj]
  have l_:(eT fx++[(x,i)]).length=fx.length+1:=by rw[aN,uG];rfl
  have s:=s.ae [3]
  obtain⟨id,off,e1,e2,_⟩:=JS (P:=Tryz.prog) (j:=fx.length) (x:=x) (i:=i) eS lR (by rw[iz (by omega),uG,gF];rfl) s
  have AU:=CF (P:=Tryz.prog) s eS
  rw[l_] at AU
  have s:=s.ae [4]
  obtain⟨Ya,Yb,us0,s⟩:=aT.1 s
  refine Call.of_wp (hW.free _ U) Tryz.func54 U U (zK 8 U (zo U (aC U U U AU) (zo U (aq (r:=.int .i64 (fx.length:Int)) U U (by rw[show((fx.length:Nat):Int)=((fx.length+1:Nat):Int)-1 by omega];exact dM ak)) ?_)))
  refine zo U (bM (r:=.ptr id off) U U e1) (zf U (jx _ _) (zl U (e2 _ fH) (zk 6 U (zY s 0 ew bT U (zo U (aq (r:=.int .i64 ((l+1:Nat):Int)) U U (by rw[show((l+1:Nat):Int)=(l:Int)+1 by omega];exact aM ak)) ?_)))))
  refine zo U (KB (r:=.int .i64 ((min 2 (l+1):Nat):Int)) U U (abB.trans (by rw[show min (2:Int) ((l+1:Nat):Int)=((min 2 (l+1):Nat):Int) by omega]))) ?_
  have s:=s.ae [6,6]
  refine zk 6 U (zc U (I8 hW (cR _ _ _) (λc h=>(gn c h).2.1) kU (by omega) (by omega) s) ?_)
  rintro v0 h ⟨k,rfl,lD,ob,s⟩
  have hk:k≠0:=λe=>lD e k0 By
  have nX:=ob hk
  obtain⟨ck,Bh,uW,I0,ej,jZ,l9,kZ⟩:=nX.parts
  have qu:1<=(fM l ck).length/\(fM l ck).length<=96:=by
   obtain⟨_,_,_,_,_,_,_,_,_,_,q5,q6⟩:=jM.cut l9 Bh
   exact⟨q5,q6⟩
  have oE:=kW.mz n (by simp)
  refine zk 6 U (zC U cS (by simp;omega) ?_)
  refine zk 4 U ?_
  have ou:=kj (s.ae [1])
  have z0:=s
  have g1:=xI (P:=Tryz.prog) (b:=k) (s.jm (j:=0) U (cR _ _ _)) (by omega) l9 aO dQ
  have g2:=JR (P:=Tryz.prog) (a:=k) (s.jm (j:=0) U (cR _ _ _)) (by omega) aO dQ
  obtain⟨v1,f1,s⟩:=Qj (P:=Tryz.prog) (b:=k) s (by omega) l9 aO dQ
  obtain⟨v2,f2,s⟩:=X0 (P:=Tryz.prog) (a:=k) (s.ae [1]) (by omega) aO dQ
  rw[g1] at f1
  rw[g2] at f2
  cases f1
  cases f2
  have Tr:=(ko (s.jm (j:=1) U (cR _ _ _))).2.2
  have lD:=(ko (s.jm (j:=2) U (cR _ _ _))).2.2
  have ob:=(ko (s.jm (j:=0) U (cR _ _ _))).2.2
  refine WP.drawn [some (0,2),some (0,2),some (0,2),some (0,2),af,af,af,af,af,af] U (by kernel_rfl) (by kernel_rfl) ?_
  refine zM U (zM U (zM U (zO U (bK (p:=none) (q:=some (.int .i64 (k:Int))) (m:=some (.int .i64 (k:Int))) (p':=none) (q':=some k) (m':=some k) U U U U U (by rw[bN];rfl) (by rw[bN];rfl) (xI (s.jm (j:=1) U (cR _ _ _)) (by omega) l9 aO dQ)) ?_)))
  refine zM U (zM U (zO U (bK (p:=some (.int .i64 (k:Int))) (q:=none) (m:=none) (p':=some k) (q':=none) (m':=none) U U U U (by rw[bN];rfl) U U (JR (s.jm (j:=1) U (cR _ _ _)) (by omega) aO dQ)) ?_))
  have z0:=s
  refine aB.any U U U U (OpR.call U U U U (mT hW s (cR _ _ _) (by rw[fD];omega))) ?_
  intro cv h s
  have z1:=s.ae [1,1]
  dsimp only[bringA,getA,aL] at z1
  refine zA U (zA U ?_)
  refine aB.nil ⟨⟨λ_ _=>.inr ⟨U,⟨_,bZ U⟩,Tr⟩,λ_ _=>.inr ⟨U,⟨_,bZ U⟩,bp _ U⟩,λ_ _=>.inr ⟨U,⟨_,bZ U⟩,bp _ U⟩,gC (.inr ⟨U,⟨_,bK (p:=none) (q:=some (.int .i64 (k:Int))) (m:=some (.int .i64 (k:Int))) (p':=none) (q':=some k) (m':=some k) U U U U U (by rw[bN];rfl) (by rw[bN];rfl) (xI (z0.jm (j:=1) U (cR _ _ _)) (by omega) l9 aO dQ)⟩,lD⟩) (.inr ⟨U,⟨_,bK (p:=none) (q:=some (.int .i64 (k:Int))) (m:=some (.int .i64 (k:Int))) (p':=none) (q':=some k) (m':=some k) U U U U U (by rw[bN];rfl) (by rw[bN];rfl) (xI (z1.jm (j:=1) U (cR _ _ _)) (by omega) l9 aO dQ)⟩,lD⟩),aa,aa,aa,aa,aa,aa,aa⟩,?_⟩
  refine zK 3 U ?_
  have s:=LM k (s.ae [4])
  have s:=LN k (s.ae [1])
  have s:=((s.del 5).del 4).del 1
  have s:=s.ae [9]
  refine zc U (CC hW hB b_ hw gD kW s) ?_
  rintro v0 h ⟨dz,n_,b1,b2,b3,b4,s1,(⟨rfl,rfl,vt⟩|⟨z,M1,rfl,c1,c2,c3,c4,c5,c6⟩)⟩
  .skip
   refine zk 10 U (zB U aE (by decide) ?_)
   exact zk 7 U (WP.ret ⟨aa,_,U,dz,_,b1,b2,b3,by omega,s1.skip 10,.inl ⟨U,by omega⟩⟩)
  refine zk 10 U (zC U aE (U) ?_)
  have s:=s1.ae [3,0,3,0,1,0]
  obtain⟨y,rfl,eO,s⟩:=EM s (by rw[fD];omega)
  refine zk 7 U (zY s 2 ew bT U (zm U (zo U (cI (r:=.agg [.int .i64 ((0:Nat):Int),.int .i64 (l:Int),.aZ,.sl y 0 (us.drop k).length (.rest 1 0)]) U (by rw[PA];rfl)) ?_)))
  refine au.cg s U U U (fG U (by rfl)) ?_
  intro x2 h s
  have s:=CA (by rw[fD];omega) eO (s.ae [1])
  have s:=s.ae [1,0,2]
  have Wk:(cs.drop k)[0]?=some ck:=by rw[fB,eH];exact Bh
  obtain⟨CG,abK,_⟩:=gn ck (aI Bh)
  refine zc U (Wd hW (i:=0) (λm r h=>(jg _ _ _).s m r (k8 m r h)) Wk CG (by omega) abK s) ?_
  intro kv h s
  refine zc U (r_ hW s (bC _ _) (by have:=abK;unfold fM;split<;>simp<;>omega)) ?_
  intro cut h s
  have s:=(((s.del 2).del 1).ae [1]).eD k8
  have s:=s.ae [0,1,2]
  refine zk 3 U (abJ hW (λc hc=>(gn c (jd hc)).1) (by rw[fD];omega) (by omega) s ⟨U,U,U,U,U,U,U,aa⟩ λE' h' vs' dY s' => ?_)
  have s:=s'
  refine WP.has dY ?_
  have s:=s.ae [4]
  refine zK 7 U (zY s 3 ew bT U (zm U (zc U (mS hW hB b1 b3 c2 (jg _ _ _).s jZ (by omega) s) ?_)))
  rintro v0 h ⟨ij,bz,rfl,d1,d2,d3,d4,s⟩
  have j3:∀q:Int,pgG (cD (z:Int) bz n_) ij q=if (z:Int)=q then bz else pgG n_ dz q:=λq=>by rw[eY,gI d2]
  have abL:fT N R M1 (pgG (cD (z:Int) bz n_) ij):=c4.frame (by rw[j3,ai (by omega)]) (by rw[j3,ai (by omega)])
  have AA:=CF (P:=Tryz.prog) (s.ae [10]) eS
  rw[l_] at AA
  have Wl:=gy (i:=(z:Int)) (b:=bz) (now:=n_)
  generalize afb:cD (z:Int) bz n_=mB at s j3 abL d3 Wl
  refine zk 5 U (zC U aE (U) (zk 7 U (zo U (aC U U U AA) ?_)))
  cases fx with
  |nil =>
   obtain⟨rfl,rfl,rfl,rfl,rfl,rfl,rfl⟩:=nM
   refine zB U cS (by simp) ?_
   refine zk 5 U (zc U (CC hW hB d1 d3 abL c5 s) ?_)
   rintro v0 h ⟨kQ,I,g1,g2,g3,g4,s1,(⟨rfl,rfl,vt⟩|⟨z2,M2,rfl,k1,k2,k3,k4,k5,k6⟩)⟩
   .skip
    refine zk 10 U (zB U aE (by decide) ?_)
    exact zk 7 U (WP.ret ⟨aa,_,U,kQ,_,g1,b2.trans (d2.trans g2),g3,by omega,s1.skip 11,.inl ⟨U,by simp only[aX] at vt ⊢;omega⟩⟩)
   refine zk 10 U (zC U aE (U) ?_)
   have s:=s1.ae [0,4,4,2,2]
   refine zk 10 U (zY s 3 ew bT U (zm U (zc U (mS hW hB g1 g3 k2 (cR _ _ _) ej (by omega) s) ?_)))
   rintro v0 h ⟨qP,bm,rfl,m1,m2,m3,m4,s⟩
   have oa:∀q:Int,pgG (cD (z2:Int) bm I) qP q=if (z2:Int)=q then bm else pgG I kQ q:=λq=>by rw[eY,gI m2]
   have LX:=gy (i:=(z2:Int)) (b:=bm) (now:=I)
   generalize Yd:cD (z2:Int) bm I=oY at s oa m3 LX
   refine zk 5 U (zC U aE (U) (zk 4 U ?_))
   have z0:=s
   have D5:=nO (s.aD (k:=4) U (bg _ _))
   refine WP.drawn [some (0,4),some (0,4),some (0,4),some (0,4),some (0,4),some (0,4),some (0,4),some (0,4),some (0,4),some (0,4),none,none,some (0,2),some (0,2),af,af,af,af] U (by kernel_rfl) (by kernel_rfl) ?_
   refine zM U (zM U (zN U (zF U (iB _ _) (zL U (s.ld (k:=3) U bT U) (zM U (zN U (zF U (ew _ _) (zL U (s.ld (k:=3) U bT U) (zO U (aq U U (by exact aM ak)) ?_)))))))))
   refine zM U (aB.any U U U U (OpR.call U U U U (zU hW (m:=z2) (by omega) (s.ir (φ:=True) aa) OE (by decide))) ?_)
   intro u1 h s
   have s:=(s.fh.del 1).ae [0,4]
   have z1:=s
   refine zM U (zM U (aB.any U U U U (OpR.call U U U U (zU hW (m:=z) (by omega) (s.ae [1]) (bg _ _) (by omega))) ?_))
   intro u2 h s
   have s:=(s.fh.del 1).ae [1,0]
   have LY:=s
   have XU:=(s.aD (k:=0) U (bC _ _)).cells
   have hu2:=(s.aD (k:=1) U (bC _ _)).cells
   obtain⟨zZ,h1,e3,s1⟩:=OD (P:=Tryz.prog) (x:=u1) (y:=u2) s aO lQ dQ U XU.1 hu2.1 XU.2 hu2.2
   refine aB.any U U U U (OpR.of (R:=λv h'=>v=zZ/\h'=h1) (iZ U e3) ⟨U,U⟩) ?_
   rintro zZ h ⟨rfl,rfl⟩
   have z3:=s1
   have s:=(s1.ae [1,1]).two (C:=dn [u1,u2] [ff z2 [],ff z (fM l ck)]) (bf.cG _ _) (bf.cG _ _) λa b q1 q2=>⟨q1,q2,aa⟩
   have s:=s.ae [2,1]
   refine aB.any U U U U (OpR.call U U U U (mS (n:=n) (l:=l+1) hW hB m1 m3 oE.2 (jg _ _ _).s (by rw[ku];simp[tot,ff,cO];omega) (by omega) s)) ?_
   rintro v0 h ⟨Jz,bn,rfl,n1,n2,n3,n4,s⟩
   have EV:∀q:Int,pgG (cD (n:Int) bn oY) Jz q=if (n:Int)=q then bn else pgG oY qP q:=λq=>by rw[eY,gI n2]
   have aek:=gy (i:=(n:Int)) (b:=bn) (now:=oY)
   generalize afc:cD (n:Int) bn oY=CH at s EV n3 aek
   refine zA U ?_
   refine aB.nil ⟨⟨λ_ _=>.inr ⟨U,⟨_,bZ U⟩,bp _ U⟩,λ_ _=>.inr ⟨U,⟨_,bZ U⟩,bp _ U⟩,λ_ _=>.inr ⟨U,⟨_,vk U⟩,bp _ U⟩,λ_ _=>.inr ⟨U,⟨_,mX U (iB _ _)⟩,bp _ U⟩,BU (.inr ⟨U,⟨_,o_load U (z0.ld (k:=3) U bT U)⟩,bp _ U⟩) (.inr ⟨U,⟨_,o_load U (z1.ld (k:=5) U bT U)⟩,bp _ U⟩) (.inr ⟨U,⟨_,o_load U (LY.ld (k:=5) U bT U)⟩,bp _ U⟩) (.inr ⟨U,⟨_,o_load U (z3.ld (k:=6) U bT U)⟩,bp _ U⟩),λ_ _=>.inr ⟨U,⟨_,bZ U⟩,bp _ U⟩,λ_ _=>.inr ⟨U,⟨_,vk U⟩,bp _ U⟩,λ_ _=>.inr ⟨U,⟨_,mX U (ew _ _)⟩,bp _ U⟩,BU (.inr ⟨U,⟨_,o_load U (z0.ld (k:=3) U bT U)⟩,bp _ U⟩) (.inr ⟨U,⟨_,o_load U (z1.ld (k:=5) U bT U)⟩,bp _ U⟩) (.inr ⟨U,⟨_,o_load U (LY.ld (k:=5) U bT U)⟩,bp _ U⟩) (.inr ⟨U,⟨_,o_load U (z3.ld (k:=6) U bT U)⟩,bp _ U⟩),λ_ _=>.inr ⟨U,⟨_,aq U U (by exact aM ak)⟩,bp _ U⟩,aa,aa,λ_ _=>.inr ⟨U,⟨_,bZ U⟩,bp _ U⟩,λ_ _=>.inr ⟨U,⟨_,bZ U⟩,D5⟩,aa,aa,aa,aa,aa⟩,?_⟩
   refine WP.ret ⟨aa,_,U,?_⟩
   have hP:∀q:Int,q≠1->q≠(z:Int)->q≠(z2:Int)->q≠(n:Int)->pgG CH Jz q=pgG now ε q:=λq h1 h2 h3 h4=>by
    rw[EV,ai (λe=>h4 e.symm),oa,ai (λe=>h3 e.symm),k6 q h1 h3,j3,ai (λe=>h2 e.symm),c6 q h1 h2]
   have fE:=kW.nd
   simp only[dJ,fK,nC,nD,not_or] at fE
   have DW:z∉ps/\z∉ot/\z≠n:=by simpa[not_or,and_assoc,and_comm,and_left_comm] using c3
   have KQ:z2∉ps/\z2∉ot/\z2≠n/\z2≠z:=by
    simp only[dJ,fK,gz,nD,not_or] at k3
    exact⟨k3.2.2.1,k3.2.2.2,k3.2.1,k3.1⟩
   have hold:∀q:Nat,q∈ps\/q∈ot->pgG CH Jz q=pgG now ε q:=λq hq=>by
    have hr:=kW.mz q (by simp only[dJ,fK,gz,nD];exact .inr hq)
    refine hP q (by omega) (λe => ?_) (λe => ?_) (λe => ?_)
    .have:q=z:=by omega
     subst this
     rcases hq with q|q
     .exact DW.1 q
     .exact DW.2.1 q
    .have:q=z2:=by omega
     subst this
     rcases hq with q|q
     .exact KQ.1 q
     .exact KQ.2.1 q
    .have:q=n:=by omega
     subst this
     rcases hq with q|q
     .exact fE.1.1 q
     .exact fE.1.2 q
   have hbz:pgG CH Jz (z:Int)=bz:=by
    rw[EV,ai (by omega),oa,ai (by omega),k6 _ (by omega) (by omega),j3,ay U]
   have hbm:pgG CH Jz (z2:Int)=bm:=by
    rw[EV,ai (by omega),oa,ay U]
   obtain⟨nU,nV,rfl,Ct⟩:=Wh (Z:=Z) (P':=pgG CH Jz) (m:=z2) (z:=z) jM l9 Bh (uW Z) (I0 Z) (by rw[hbm];exact m4.f) (by rw[hbz];exact d4.f) (λq hq=>hold q (.inl hq)) (by omega) (by omega)
   refine⟨Jz,CH,n1,b2.trans (d2.trans (g2.trans (m2.trans n2))),n3,by omega,s.skip 12,.inr ⟨U,M2,l+1,_,z2::(nU++z::nV),k4.frame ?_ ?_,k5.perm ?_,by simpa using Ct,?_,⟨aH _,?_⟩,λq hq=>hold q (.inr hq)⟩⟩
   .rw[EV,ai (by omega),oa,ai (by omega)]
   .rw[EV,ai (by omega),oa,ai (by omega)]
   .rw[lX]
    intro q
    simp only[dJ,fK,lZ,lY]
    omega
   .rw[EV,ay U]
    exact n4.f
   .have hA:lam l cs<=A:=hA
    refine c_ ?_ hA
    simp only[lam,cB,tot,ff,aN,cO,aX,bY,hU,C7,yD,List.sum_nil]
    rw[ai (by omega)]
    unfold cB at Cg
    split<;>omega
  |cons e t =>
   refine zC U cS (by simp;omega) ?_
   have s:=s.ae [0,4,4,2,2,5,5]
   dsimp only[V.cells,List.length_cons,List.length_nil,Nat.reduceAdd,bringA,getA,aL] at s
   refine zk 5 U (WP.drawn [af,af,af,af,af,af,af,af,af,af,af,af] U (by kernel_rfl) (by kernel_rfl) ?_)
   refine zM U (zM U (zN U (zF U (iB _ _) (zL U (s.ld (k:=3) U bT U) (zM U (zN U (zF U (ew _ _) (zL U (s.ld (k:=3) U bT U) (zM U (aB.any U U U U (OpR.call U U U U (mS (n:=n) (l:=l) hW hB d1 d3 oE.2 (cR _ _ _) ej (by omega) s)) ?_))))))))))
   rintro v0 h ⟨kQ,bn,rfl,g1,g2,g3,g4,s⟩
   have oa:∀q:Int,pgG (cD (n:Int) bn mB) kQ q=if (n:Int)=q then bn else pgG mB ij q:=λq=>by rw[eY,gI g2]
   have ael:=gy (i:=(n:Int)) (b:=bn) (now:=mB)
   generalize afd:cD (n:Int) bn mB=I at s oa g3 ael
   refine zA U ?_
   refine aB.nil ⟨⟨aa,aa,aa,aa,aa,aa,aa,aa,aa,aa,aa,aa,aa⟩,?_⟩
   refine zK 3 U (zC U aE (U) ?_)
   have s:=s.ae [5]
   have Ig:(eT t).length=t.length:=by rw[eT,ju,cj]
   have sJ:(eT (e::t)++[(x,i)])[t.length]?=some (e.1,e.2.i):=by
    rw[ry,dO,iz (by omega),Ig,gF]
    rfl
   obtain⟨r8,oX,y1,_,y3⟩:=JS (P:=Tryz.prog) eS lR sJ s
   have Ye:=CF (P:=Tryz.prog) s eS
   rw[l_] at Ye
   refine zk 7 U (zo U (aC U U U Ye) (zo U (aq (r:=.int .i64 (t.length:Int)) U U (by rw[show((t.length:Nat):Int)=(((e::t).length+1:Nat):Int)-2 by simp only[aX];omega];exact dM ak)) ?_))
   refine zo U (bM (r:=.ptr r8 oX) U U y1) (zl U (y3 HG) ?_)
   refine au.cg s U U U (cm Pz) (λp20 h s => ?_)
   refine zS U (s.gX (j:=0) U lR U U) (λh s => ?_)
   refine zk 5 U (zc U (zU hW (m:=z) (by omega) (s.ae [6]) (bg _ _) (by omega)) ?_)
   intro kc h s
   have s:=((((((((s.fh.del 1).del 12).del 11).del 10).del 9).del 8).del 6).del 5).del 4
   have s:=s.ae [4]
   dsimp only[V.cells,List.length_cons,List.length_nil,Nat.reduceAdd,bringA,getA,aL,setA] at s
   have s:=vA.1 s
   obtain⟨bve,Yf,use,s⟩:=aT.1 s
   have s:=s.ae [0,5,1,1,0,1]
   dsimp only[bringA,getA,aL] at s
   -- what lies on the pages
   have hP3:∀q:Int,q≠1->q≠(z:Int)->q≠(n:Int)->pgG I kQ q=pgG now ε q:=λq h1 h2 h3=>by
    rw[oa,ai (λe=>h3 e.symm),j3,ai (λe=>h2 e.symm),c6 q h1 h2]
   have fE:=kW.nd
   rw[dO,mE] at fE
   have yg:=fE.2.1
   rw[fK,nC] at yg
   have hold:∀q:Nat,q∈pO\/q∈ps\/q∈ot->pgG I kQ q=pgG now ε q:=λq hq=>by
    have hm:q∈(pO++n::ps)++ot:=by
     simp only[nD,gz]
     rcases hq with q|q|q
     .exact .inl (.inl q)
     .exact .inl (.inr (.inr q))
     .exact .inr q
    have hr:=kW.mz q hm
    refine hP3 q (by omega) (λe => ?_) (λe => ?_)
    .have:q=z:=by omega
     subst this
     exact c3 hm
    .have:q=n:=by omega
     subst this
     rcases hq with q1|q1
     .exact fE.2.2 q q1 q (by simp) U
     .exact yg.1 (List.mem_append.2 q1)
   have hbz:pgG I kQ (z:Int)=bz:=by
    have:z≠n:=λe=>c3 (by simp[e])
    rw[oa,ai (by omega),j3,ay U]
   have hbn:pgG I kQ (n:Int)=bn:=by rw[oa,ay U]
   obtain⟨kN,gL,nU,nV,rfl,rfl,u1,u2,u3,u4,u5,u6⟩:=jM.cut l9 Bh
   have aem:=gW.frame (P':=pgG I kQ) nM λq hq=>hold q (.inl hq)
   obtain⟨fZ,eN,m9,jh,iW,XV,m_,r1,r2,r3,r4,r5,r6⟩:=gW.two aem (u1.frame λq hq=>hold q (.inr (.inl (fA _ hq)))) (uW Z) (by rw[hbn];exact g4.f) (u2.frame λq hq=>hold q (.inr (.inl (jt _ hq)))) (I0 Z) (by rw[hbz];exact d4.f) u3 u4 ⟨u5,u6⟩ (n2:=z) (by omega)
   dsimp only at r1 r2 r3 r4 r5 r6
   have aen:e.2.pg∈pO:=by
    obtain⟨_,_,_,_,_,_,_,_,_,_,_,_,_,_,_,_,_,hp⟩:=nM
    rw[hp]
    exact a_
   have Kh:bH (pgG now ε (e.2.pg:Int)) 204 0 (l+1) (bI e.2.ks):=by rw[<-hold e.2.pg (.inl aen)];exact r5
   have tV:jo N M1 ((iW++e.2.pg::m_)++ot):=c5.perm (by
    rw[lX] at r4 ⊢
    intro q
    have:=r4 q
    simp only[lY,lZ] at this ⊢
    omega)
   have LZ:=tV.nd
   rw[dO,mE] at LZ
   have Wm:=LZ.2.1
   rw[fK,nC] at Wm
   have Gj:=tV.mz e.2.pg (by simp)
   have abM:∀q:Nat,q∈iW->q≠e.2.pg:=λq hq e2=>LZ.2.2 q hq e.2.pg (by simp) e2
   have Wn:∀q:Nat,q∈m_->q≠e.2.pg:=λq hq e2=>Wm.1 (by rw[<-e2];exact fA _ hq)
   have hgt:∀q:Nat,q∈ot->q≠e.2.pg:=λq hq e2=>Wm.1 (by rw[<-e2];exact jt _ hq)
   have sW:=dI (ks:=e.2.ks)
   have hkz:(ff z (fM l ck)).length=4+(fM l ck).length:=by simp[ff,cO]
   have hA:∀c,bH (pgG now ε root) 204 0 L c->lam L c+104<=A:=hA
   have OH:root∈pO:=by
    rcases nM.rt with⟨q,_⟩|⟨_,q⟩
    .cases q
    .exact q
   have GH:t.map (·.2)=[]->l+1=L/\e.2.pg=root:=λq=>by
    rcases r1.rt with⟨_,q2⟩|⟨q2,_⟩
    .exact q2
    .exact absurd q q2
   have aeo:t.map (·.2)≠[]->root∈iW:=λq=>by
    rcases r1.rt with⟨q2,_⟩|⟨_,q2⟩
    .exact absurd q2 q
    .exact q2
   have AV:lam (l+1) (dh (e.2.i+1) (ff z (fM l ck)) (bI e.2.ks))<=lam (l+1) (bI e.2.ks)+104:=ZR (by omega) (by omega)
   refine zk 3 U ?_
   have s:=s.ae [4,4]
   dsimp only[bringA,getA,aL] at s
   refine WP.drawn [af,af,af,af,af,af,af,af,af,af,af,af,af,af,af] U (by kernel_rfl) (by kernel_rfl) ?_
   refine zF U (jx _ _) (zL U (s.ld (k:=3) U fH U) (zN U (zF U (nP _ _) (zL U (s.ld (k:=2) U b8 U) (zF U (sH _ _) (zL U (s.ld (k:=3) U bT U) (zO U (aq (r:=.int .i64 ((e.2.i+1:Nat):Int)) U U (by rw[show((e.2.i+1:Nat):Int)=(e.2.i:Int)+1 by omega];exact aM (ak (by omega) (by have:=Kh.fits;rw[sW] at this;omega)))) ?_)))))))
   refine zM U (aB.any U U U U (OpR.call U U U U (Ln hW (i:=e.2.i+1) s (bC _ _) (bC _ _) Kh (by omega) (by omega))) ?_)
   rintro v0 h (⟨dL,ub,b',rfl,uH,s⟩|⟨vt,rfl,s⟩)
   .skip
    refine zM U (zO U (og U U) (zO U (og U U) (zA U (zA U ?_))))
    refine aB.nil ⟨⟨aa,aa,aa,aa,aa,aa,aa,aa,aa,aa,aa,aa,aa,aa,aa,aa⟩,?_⟩
    refine zK 5 U (WP.block (zg U (zB U cS (U) (zk 6 U (zY s 4 jx fH U (zn U (zY s 3 iB bT U (zm U (zc U (wP hW hB g1 g3 Gj.2 (s.ae [9]) (bg _ _) uH.good) ?_)))))))))
    rintro v0 h ⟨qP,rfl,w1,w2,w3,s⟩
    have CI:∀q:Int,pgG (cD (e.2.pg:Int) b' I) qP q=if (e.2.pg:Int)=q then b' else pgG I kQ q:=λq=>by rw[eY,gI w2]
    have LX:=gy (i:=(e.2.pg:Int)) (b:=b') (now:=I)
    generalize Yd:cD (e.2.pg:Int) b' I=oY at s CI w3 LX
    refine zk 2 U (WP.ret ⟨aa,_,U,?_⟩)
    have r1':=r1.frame (P':=pgG oY qP) λq hq=>by
     have:=abM q hq
     rw[CI,ai (by omega)]
    have r2':=r2.frame (P':=pgG oY qP) λq hq=>by
     have:=Wn q hq
     rw[CI,ai (by omega)]
    obtain⟨GI,cs',t1,t2,t3,t4⟩:=gW.Qh r1' r2' (by rw[CI,ay U];exact uH) (λ_=>by
     unfold cU
     rw[ai (by omega),lu (by omega),sW]
     exact .inl (by omega))
    rw[r3] at t1
    refine⟨qP,oY,w1,b2.trans (d2.trans (g2.trans w2)),w3,by omega,s.skip 9,.inr ⟨U,M1,L,cs',GI,c4.frame ?_ ?_,tV.perm (t3.symm.append_right ot),t1,t2,⟨by omega,(yf.up (P':=pgG oY qP) (t:=t) hA Kh GH (λq=>by rw[CI,ai (by have:=abM root (aeo q);omega)];exact hold root (.inl OH)) AV).fin t2 t4⟩,λq hq => ?_⟩⟩
    .rw[CI,ai (by omega),oa,ai (by omega),j3,ai (by omega)]
    .rw[CI,ai (by omega),oa,ai (by omega),j3,ai (by omega)]
    .have:=hgt q hq
     rw[CI,ai (by omega),hold q (.inr (.inr hq))]
   .skip
    refine zM U (zO U (og U U) (zO U (og U U) (zA U (zA U ?_))))
    refine aB.nil ⟨⟨aa,aa,aa,aa,aa,aa,aa,aa,aa,aa,aa,aa,aa,aa,aa,aa⟩,?_⟩
    refine zK 5 U (WP.block (zg U (zC U cS (U) (zk 5 U (zB U cS (U) (zk 4 U ?_))))))
    have afB:=kj (s.ae [5])
    have afC:e.2.ks.length<=512:=by have:=Kh.fits;omega
    have uY:=(s.aD (k:=1) U (bC _ _))
    have GJ:=nO uY
    have F5:=s.ac_ (j:=7) (b:=t.length+1) U
    have GK:(eT (e::t)++[(x,i)]).length=t.length+2:=l_
    have z0:=s
    refine WP.aaU [some (0,4),some (0,4),some (0,4),some (0,4),some (0,4),some (0,4),af,af,af,af,af,af,some (0,3),some (0,3),some (0,3),some (0,2),af,af,af,af] U (by kernel_rfl) (by kernel_rfl) ?_
    refine zM U (zM U (zM U (zO U (aC (r:=.int .i64 ((t.length+2:Nat):Int)) U U U (by rw[<-GK];exact s.AR (j:=7) U eS)) ?_)))
    refine zO U (aq (r:=.int .i64 ((t.length+1:Nat):Int)) U U (by rw[show((t.length+1:Nat):Int)=((t.length+2:Nat):Int)-1 by omega];exact dM ak)) ?_
    refine zO U (bK (p:=none) (q:=some (.int .i64 ((t.length+1:Nat):Int))) (m:=none) (p':=none) (q':=some (t.length+1)) (m':=none) U U U U U (by rw[bN];rfl) U (s.AS (j:=7) U (b:=t.length+1) eS lR (by omega))) ?_
    refine zF U (jx _ _) (zL U (s.ld (k:=3) U fH U) (zN U (zF U (cM _ _) (zL U (s.ld (k:=2) U gu U) (aB.any U U U U (OpR.call U U U U (mT hW (s.ae [4]) (cR _ _ _))) ?_)))))
    intro cl h s
    have s:=s.ae [0,0,1,2,2,1,1,1]
    dsimp only[aL,bringA,getA] at s
    have z1:=s
    refine zF U (sH _ _) (zL U (s.ld (k:=3) U bT U) (zO U (aq (r:=.int .i64 ((e.2.i+1:Nat):Int)) U U (by rw[show((e.2.i+1:Nat):Int)=(e.2.i:Int)+1 by omega];exact aM ak)) ?_))
    refine zM U (aB.any U U U U (OpR.of (R:=λv h'=>v=.sl h.next 0 1 (.exact 1)/\h'=h.new (.cells 1 [kc] false)) (iZ U (Wi aO lQ dQ U uY.cells.1 uY.cells.2)) ⟨U,U⟩) ?_)
    rintro v' h' ⟨rfl,rfl⟩
    have s:=s.new (.cells 1 [kc] false)
    have LY:=s.ae [0,0,0,0,0,0,0,1]
    dsimp only[bringA,getA,aL] at LY
    refine aB.any U U U U (OpR.call U U U U (TF hT (s.ae [1]) uY.cells.2 (by omega) (by omega))) ?_
    intro iv h s
    have z3:=s
    have s:=(s.ae [4]).dup (bf.qO _ _)
    dsimp only[aL,bringA] at s
    have s:=OG (i:=e.2.i+1) (s.ae [4,0])
    dsimp only[aL,bringA] at s
    have s:=((s.ae [2]).rW).eD Gu
    dsimp only[aL,bringA] at s
    have s:=s.ae [5,7,3,2]
    dsimp only[bringA,getA,aL] at s
    have s:Sat h (aW e.1 e.2.pg (l+1) (pgG now ε e.2.pg) (bI e.2.ks)::_):=aT.2 ⟨bve,Yf,use,s⟩
    have s:=LO (b:=t.length+1) (by omega) (by omega) (s.ae [5])
    dsimp only[aL,bringA] at s
    have qt:(eT (e::t)++[(x,i)]).take (t.length+1)=eT t++[(e.1,e.2.i)]:=by
     rw[ry,ga (by rw[aN,Ig];rfl)]
    rw[qt,<-uf (P':=pgG I kQ) (fx:=t) λe' su=>hold e'.2.pg (.inl (nM.Yc e'.2 (bw _ (nj su))))] at s
    have s:=(s.del 4).ae [5,2,2,0,0,0]
    dsimp only[aL,bringA,getA] at s
    have Im:tot (dh (e.2.i+1) (ff z (fM l ck)) (bI e.2.ks))=tot (bI e.2.ks)+(ff z (fM l ck)).length:=wM
    have A6:(dh (e.2.i+1) (ff z (fM l ck)) (bI e.2.ks)).length=e.2.ks.length+1:=by rw[lu (by omega),sW]
    have hft:=Kh.fits
    refine aB.any U U U U (OpR.call U U U U (ih t (l+1) e.1 e.2.pg e.2.i fZ eN m9 jh iW _ _ _ XV m_ iv _ _ kQ I M1 Z A L h S (by simp only[aX] at hm;omega) g1 g3 (c4.frame (by rw[oa,ai (by omega),j3,ai (by omega)]) (by rw[oa,ai (by omega),j3,ai (by omega)])) tV r1 r2 (by rw[ku,Im,A6];omega) (by rw[ai (by omega),ku,Im,A6];omega) (by simp only[aX] at hL;omega) LW (yf.up (P':=pgG I kQ) hA Kh GH (λ_=>hold root (.inl OH)) AV) s)) ?_
    rintro v0 h ⟨qP,oY,w1,w2,w3,w4,s,uM⟩
    refine zA U ?_
    refine aB.nil ⟨⟨⟨λ_ _=>.inr ⟨U,⟨_,bZ U⟩,bp _ U⟩,λ_ _=>.inr ⟨U,⟨_,bZ U⟩,F5.1⟩,λ_ _=>.inr ⟨U,⟨_,bZ U⟩,F5.1⟩,BU (.inr ⟨U,⟨_,aC (r:=.int .i64 ((t.length+2:Nat):Int)) U U U (by rw[<-GK];exact z0.AR (j:=7) U eS)⟩,bp _ U⟩) (.inr ⟨U,⟨_,aC (r:=.int .i64 ((t.length+2:Nat):Int)) U U U (by rw[<-GK];exact z1.AR (j:=7) U eS)⟩,bp _ U⟩) (.inr ⟨U,⟨_,aC (r:=.int .i64 ((t.length+2:Nat):Int)) U U U (by rw[<-GK];exact LY.AR (j:=7) U eS)⟩,bp _ U⟩) (.inr ⟨U,⟨_,aC (r:=.int .i64 ((t.length+2:Nat):Int)) U U U (by rw[<-GK];exact z3.AR (j:=7) U eS)⟩,bp _ U⟩),λ_ _=>.inr ⟨U,⟨_,aq (r:=.int .i64 ((t.length+1:Nat):Int)) U U (by rw[show((t.length+1:Nat):Int)=((t.length+2:Nat):Int)-1 by omega];exact dM ak)⟩,bp _ U⟩,BU (.inr ⟨U,⟨_,bK (p:=none) (q:=some (.int .i64 ((t.length+1:Nat):Int))) (m:=none) (p':=none) (q':=some (t.length+1)) (m':=none) U U U U U (by rw[bN];rfl) U (z0.AS (j:=7) U (b:=t.length+1) eS lR (by omega))⟩,F5.2⟩) (.inr ⟨U,⟨_,bK (p:=none) (q:=some (.int .i64 ((t.length+1:Nat):Int))) (m:=none) (p':=none) (q':=some (t.length+1)) (m':=none) U U U U U (by rw[bN];rfl) U (z1.AS (j:=7) U (b:=t.length+1) eS lR (by omega))⟩,F5.2⟩) (.inr ⟨U,⟨_,bK (p:=none) (q:=some (.int .i64 ((t.length+1:Nat):Int))) (m:=none) (p':=none) (q':=some (t.length+1)) (m':=none) U U U U U (by rw[bN];rfl) U (LY.AS (j:=7) U (b:=t.length+1) eS lR (by omega))⟩,F5.2⟩) (.inr ⟨U,⟨_,bK (p:=none) (q:=some (.int .i64 ((t.length+1:Nat):Int))) (m:=none) (p':=none) (q':=some (t.length+1)) (m':=none) U U U U U (by rw[bN];rfl) U (z3.AS (j:=7) U (b:=t.length+1) eS lR (by omega))⟩,F5.2⟩),aa,aa,aa,aa,aa,aa,λ_ _=>.inr ⟨U,⟨_,mX U (sH _ _)⟩,bp _ U⟩,BQ (.inr ⟨U,⟨_,o_load U (z0.ld (k:=3) U bT U)⟩,bp _ U⟩) (.inr ⟨U,⟨_,o_load U (z1.ld (k:=3) U bT U)⟩,bp _ U⟩) (.inr ⟨U,⟨_,o_load U (LY.ld (k:=4) U bT U)⟩,bp _ U⟩),λ_ _=>.inr ⟨U,⟨_,aq (r:=.int .i64 ((e.2.i+1:Nat):Int)) U U (by rw[show((e.2.i+1:Nat):Int)=(e.2.i:Int)+1 by omega];exact aM ak)⟩,bp _ U⟩,λ_ _=>.inr ⟨U,⟨_,bZ U⟩,GJ⟩,aa,aa,aa,aa,aa⟩,.inl U,.inl U,.inl U,.inl U,.inl U,.inl U,.inl U,.inl U,.inl U,.inl U,.inl U,.inl U,.inl U,.inl U,.inl U,.inl U,.inr U,.inl U,.inl U,.inl U,aa⟩,?_⟩
    refine WP.ret ⟨aa,_,U,?_⟩
    refine⟨qP,oY,w1,b2.trans (d2.trans (g2.trans w2)),w3,by simp only[aX];omega,s,?_⟩
    rw[r3] at uM
    rcases uM with⟨q,q2⟩|⟨q,M',L',cs',GI,y1,y2,y3,y4,y5,y6⟩
    .exact .inl ⟨q,by
      have Ik:=r4.length_eq
      simp only[aN,aX] at Ik q2 ⊢
      omega⟩
    .exact .inr ⟨q,M',L',cs',GI,y1,y2,y3,y4,y5,λm hm=>(y6 m hm).trans (hold m (.inr (.inr hm)))⟩
end
end Go.Proofs.YtdonpgpfplgigaaGreat.Am
