/- TreeFull: a part of its proof; conditions: its statement's. -/
import Derived.Test.YtdonpgpfplgigaaGreatS05
import Derived.Shelf.Spec.SlicesInsertGrow
import Derived.Deep.RegionLaw
import Derived.Lib.AppendZerosOnto
import Derived.Laws.NewBlocks
import Derived.Test.YtdonpgpfplgigaaGreatS02
set_option linter.defProp false
namespace Go.Proofs.YtdonpgpfplgigaaGreat.Am
open Go Go.Lib
def eS:=@Tryz.underlying89
def zU:=@Tryz.func52
def LM:=@Tryz.func116
def LN:=@Tryz.func32
variable {ts:Array TypeId} {X Y:aE} {C:gO} {code:Code} {d:sF} {ε ah:bA} {A:bA->aE} {pg:bA->Int->List Nat} {lv dd:bA->Prop} {fn:Func} {h:H} {P':Int->List Nat} {lo:Ky} {now:List (Int×List Nat)} {cs cs':List (List Nat)} {E:List (Nat×V)} {S:List aE} {es:List En} {ks:List fo} {Ch:List fo->Nat->Prop} {b ps c R M M' data was:List Nat} {us args caps:List V} {a l k i x n N B id off kd link extra j sE g q r aR L K tx bj lk:Nat} {F:Nat->List (List Nat)->Prop} {ox oy:Operand} {hi:Option Ky} {P:Program} {α:Type} {t te t' e:TypeId} {rv y u z bv cv w kv:V}
set_option maxHeartbeats 4000000 in
set_option maxRecDepth 100000 in
theorem TE (b off n c i vb I m vc:Nat)(cs vs:List Value)(w:World)(hi:i<n)(hm:0<m)(su:n+m<=c)(zD:n+m<=9223372036854775807)(TF:vb≠b)(fN:cs.length=n)(LO:vs.length=m)
 (kR:∀j v,cs[j]?=some v->w.cell? ⟨b,off+j,none⟩=some v)(gI:∀j,j<n+m->(w.cell? ⟨b,off+j,none⟩).isSome=true)(wk:∀j,j<n+m->w.frozen? ⟨b,off+j,none⟩=false)
 (Yz:∀j v,vs[j]?=some v->w.cell? ⟨vb,I+j,none⟩=some v)(OT:∀v∈cs,v.oneCell'=true)(OU:∀v∈vs,v.oneCell'=true)
 (tA tB:TypeId)(kA kB:Nat)(hsa:w.shape? vb=some (tA,kA))(Ym:w.shape? b=some (tB,kB))(hkB:kB≠0)(hfa:w.frozen? ⟨vb,I,none⟩=false)(hfe:w.frozen? ⟨vb,kA,none⟩=false):
  Calls Tryz.prog 52 #[.slice (some ⟨b,off,none⟩) n c,.int .i64 i,.slice (some ⟨vb,I,none⟩) m vc] w λe w' =>
   e=.returned (.slice (some ⟨b,off,none⟩) (n+m) c)/\w'=(w.drew.setCells b (off+(i+m)) (cs.drop i)).setCells b (off+i) vs:=by
 have D6:¬ ((m:Int)=0):=by omega
 have K4:¬ ((i:Int)=(n:Int)):=by omega
 have gm:(Tryz.prog.info? 29).map (·.size)=some 1:=by kernel_rfl
 have hov:∀lb cb,(callFunc 128 #[.slice (some ⟨vb,I,none⟩) m vc,.slice (some ⟨b,off+(i+m),none⟩) lb cb]).run Tryz.prog w=.ok (.value (.bool false)) w:=λlb cb=>by
  rw[run_callFunc_extern Tryz.func128 (by kernel_rfl) (by kernel_rfl) (by kernel_rfl) (e:=Extern.SlicesOverlaps.overlaps #[98,98] #[4]) (by kernel_rfl),
   Lib.run_overlaps_apart w 98 4 29 aQ 1 (λw=>Tryz.sizeOf29 w) ⟨vb,I,none⟩ ⟨b,off+(i+m),none⟩ m vc lb cb TF tA tB kA kB hsa Ym hkB hfa hfe]
  rfl
 have xC:(cs.drop i).length=n-i:=by rw[fA,fN]
 have Kn:IntKind.i64.wrap ((i:Int)+(m:Int))=(i:Int)+(m:Int):=by rw[IntKind.wrap_i64];omega
 have lB:(0:Int)<=(i:Int)+(m:Int):=by omega
 have sV:i<=n:=by omega
 have htn:((i:Int)+(m:Int)).toNat=i+m:=by omega
 have ob:¬ (c=i+m):=by omega
 have NO:(i:Int)<=(n:Int)+(m:Int):=by omega
 have hb4:¬ (c=i):=by omega
 have ab3:∀ty dc sc,(Builtin.copy_ #[98,98] ty #[.slice (some ⟨b,off+(i+m),none⟩) (n+m-(i+m)) dc,.slice (some ⟨b,off+i,none⟩) (n+m-i) sc]).run Tryz.prog w.drew=.ok (goInt (cs.drop i).length) (w.drew.setCells b (off+(i+m)) (cs.drop i)):=λty dc sc =>
  run_copy_cells w.drew _ _ ty 29 b (off+(i+m)) (n+m-(i+m)) dc ⟨b,off+i,none⟩ (n+m-i) sc (cs.drop i) aQ gm (by rw[xC];simp only[Dh];split<;>omega)
   (λj v hj=>by rw[Addr.add_lit,oP];exact kR (i+j) v (by rwa [fq] at hj))
   (λj hj=>by rw[oP];exact gI _ (by omega)) (λj hj=>by rw[oP];exact wk _ (by omega)) (λv hv=>OT v (i_ hv))
 obtain⟨W1,Ba⟩:∃W1,W1=w.drew.setCells b (off+(i+m)) (cs.drop i):=⟨_,U⟩;have AN:∀k,k<n+m->(W1.cell? ⟨b,off+k,none⟩).isSome=true:=λk hk=>by
  rw[Ba];exact isSome_setCells b _ _ _ (λj hj=>by rw[oP];exact gI _ (by omega)) _ (gI k hk)
 have aeL:∀(W:World),(∀x,W.cell? x=W1.cell? x)->(∀x,W.frozen? x=W1.frozen? x)->∀ty dc,(Builtin.copy_ #[98,98] ty #[.slice (some ⟨b,off+i,none⟩) (n+m-i) dc,.slice (some ⟨vb,I,none⟩) m vc]).run Tryz.prog W=.ok (goInt vs.length) (W.setCells b (off+i) vs):=λW Jj TG ty dc =>
  run_copy_cells W _ _ ty 29 b (off+i) (n+m-i) dc ⟨vb,I,none⟩ m vc vs aQ gm (by rw[LO];simp only[Dh];split<;>omega)
   (λj v hj=>by
    rw[Addr.add_lit,Jj,Ba,World.cell?_setCells_out b _ _ _ _ (λh _=>absurd h TF)];exact Yz j v hj)
   (λj hj=>by rw[Jj,oP];exact AN _ (by omega)) (λj hj=>by rw[TG,Ba,World.frozen?_setCells,oP];exact wk _ (by omega)) OU
 rw[<-Ba] at ab3
 go_enter zU,Tryz.ntmps52
 go_wp2_with (simp only[hov])
 go_region_law (refine step_copy_runI U _ _ 98 98 U _ _ (by simp[Act.eval,Act.put]) (by simp[Act.eval,Act.put]) (ab3 _ _ _) ?_)
 go_wp2_with (at_builtin;refine wpList_copy_runI _ U _ _ 98 98 U _ _ U U (aeL _ (λ_=>U) (λ_=>U) _ _) ?_)
 go_ret
 first|exact⟨rfl,rfl⟩|exact⟨rfl,by rw[Ba]⟩
end Go.Proofs.YtdonpgpfplgigaaGreat.Am
namespace Go.Proofs.YtdonpgpfplgigaaGreat.Am
open Go Go.Lib
variable {ts:Array TypeId} {X Y:aE} {C:gO} {code:Code} {d:sF} {ε ah:bA} {A:bA->aE} {pg:bA->Int->List Nat} {lv dd:bA->Prop} {fn:Func} {h:H} {P':Int->List Nat} {lo:Ky} {now:List (Int×List Nat)} {cs cs':List (List Nat)} {E:List (Nat×V)} {S:List aE} {es:List En} {ks:List fo} {Ch:List fo->Nat->Prop} {b ps c R M M' data was:List Nat} {us args caps:List V} {a l k i x n N B id off kd link extra j sE g q r aR L K tx bj lk:Nat} {F:Nat->List (List Nat)->Prop} {ox oy:Operand} {hi:Option Ky} {P:Program} {α:Type} {t te t' e:TypeId} {rv y u z bv cv w kv:V}
set_option maxHeartbeats 4000000 in
set_option maxRecDepth 100000 in
set_option maxHeartbeats 1000000 in
theorem Wz (b off n c i vb QU m vc:Nat)(cs vs:List Value)(w:World)(hi:i<n)(hm:0<m)(hnc:n<=c)(su:c<n+m)(K9:(n+m)*24<=140737488355328)(fN:cs.length=n)(LO:vs.length=m)
 (kR:∀j v,cs[j]?=some v->w.cell? ⟨b,off+j,none⟩=some v)
 (Yz:∀j v,vs[j]?=some v->w.cell? ⟨vb,QU+j,none⟩=some v)(OT:∀v∈cs,v.oneCell'=true)(OU:∀v∈vs,v.oneCell'=true):
  Calls Tryz.prog 52 #[.slice (some ⟨b,off,none⟩) n c,.int .i64 i,.slice (some ⟨vb,QU,none⟩) m vc] w λe w' =>
   ∃G I,n+m<=G/\e=.returned (.slice (some ⟨w.heap.size,0,none⟩) (n+m) G)/\I.size=G /\
   w'=(((w.drew.alloc (.cells I 29)).setCells w.heap.size i vs).drew).setCells w.heap.size (i+m) (cs.drop i)/\∀j v,cs[j]?=some v->j<i->I[j]?=some v:=by
 have D6:¬ ((m:Int)=0):=by omega
 have K4:¬ ((i:Int)=(n:Int)):=by omega
 have hz3:(c:Int)<(n:Int)+(m:Int):=by omega
 obtain⟨i0,GC,yN,XQ,hzb⟩:∃i0,Tryz.prog.info? 29=some i0/\i0.zero=some (.slice none 0 0)/\i0.size=1/\i0.bytes=24:=by
  have h:(Tryz.prog.info? 29).map (λi=>(i.zero,i.size,i.bytes))=some (some (.slice none 0 0),1,24):=by kernel_rfl
  cases h2:Tryz.prog.info? 29 with
  |none=>rw[h2] at h;cases h
  |some i0 =>
   rw[h2] at h;simp only[gQ,aA,bW] at h;exact⟨i0,U,h⟩
 have gm:(Tryz.prog.info? 29).map (·.size)=some 1:=by rw[GC];simp[XQ]
 have xN:b<w.heap.size:=block_lt_of_cell (kR 0 _ (aF (by omega)));have hvw:vb<w.heap.size:=block_lt_of_cell (Yz 0 _ (aF (by omega)));have sZ:(n:Int)+(m:Int)-(i:Int)=((n+m-i:Nat):Int):=by omega
 have XV:i+(n+m-i)=n+m:=by omega
 have hold:(Builtin.firstCells i0.size i (.slice (some ⟨b,off,none⟩) i c)).run Tryz.prog w.drew=.ok (cs.take i).toArray w.drew:=by
  rw[XQ];exact run_firstCells_some w.drew 1 i ⟨b,off,none⟩ i c (cs.take i) (by rw[cz];omega) (λj v hj=>by
   rw[Addr.add_lit];rw[ic] at hj;split at hj
   .exact kR j v hj
   .cases hj)
 have YA:∀ty,(Builtin.append_ #[98,3] ty #[.slice (some ⟨b,off,none⟩) i c,.int .i64 ((n:Int)+(m:Int)-(i:Int))]).run Tryz.prog w =
   .ok (.slice (some ⟨w.heap.size,0,none⟩) (n+m) (grownCap w (n+m) c 29)) (w.drew.alloc (.cells ((cs.take i).toArray++Builtin.zeroCells (Value.slice none 0 0).cells (n+m-i)++Builtin.zeroCells (Value.slice none 0 0).cells (grownCap w (n+m) c 29-(n+m))) 29)):=λty=>by
  have h:=Lib.run_append_grow_zeros w 98 3 ty 29 i0 _ .i64 .i64 aQ b_ GC yN (some ⟨b,off,none⟩) i c (cs.take i) hold (n+m-i) (by omega) (by omega) (by omega) (by omega) (by rw[hzb];omega) (by rw[hzb,XV];exact growslice_fits su K9);rw[XV] at h;rw[sZ];exact h
 have hGn:n+m<=grownCap w (n+m) c 29:=grownCap_ge w _ _ _;have aeM:grownCap w (n+m) c 29<=9223372036854775807:=by
  have:=grownCap_le_maxLen w (n+m) c 29 (by unfold maxLen;omega);unfold maxLen at this;omega
 obtain⟨G,hG⟩:∃G,G=grownCap w (n+m) c 29:=⟨_,U⟩;obtain⟨I,QV⟩:∃I:Array Value,I=(cs.take i).toArray++Builtin.zeroCells (Value.slice none 0 0).cells (n+m-i)++Builtin.zeroCells (Value.slice none 0 0).cells (G-(n+m)):=⟨_,U⟩;rw[<-hG] at YA hGn aeM;rw[<-QV] at YA;have hRs:I.size=G:=by
  rw[QV];simp[Builtin.zeroCells,Value.cells];omega
 have LP:n+m<=I.size:=by omega
 have hRt:∀j v,cs[j]?=some v->j<i->I[j]?=some v:=λj v h hj=>by
  have hl:j<(cs.take i).length:=by rw[cz];omega
  rw[QV,Array.append_assoc,Array.getElem?_append_left (by simpa using hl),qf,G9 hj,h]
 obtain⟨W1,Ba⟩:∃W1,W1=w.drew.alloc (.cells I 29):=⟨_,U⟩;rw[<-Ba] at YA;have hN:∀j,j<n+m->(W1.cell? ⟨w.heap.size,j,none⟩).isSome=true:=λj hj=>by
  rw[Ba,World.cell?_alloc_at (w:=w.drew) I _ w.heap.size j U,CU (by omega)];rfl
 have hNf:∀j,W1.frozen? ⟨w.heap.size,j,none⟩=false:=λj=>by rw[Ba];exact World.frozen?_alloc_at (w:=w.drew) I _ w.heap.size j U
 have hOb:∀j v,w.cell? ⟨b,j,none⟩=some v->W1.cell? ⟨b,j,none⟩=some v:=λj v h=>by rw[Ba,World.cell?_alloc_past (w:=w.drew) _ b j xN];exact h
 have hOv:∀j v,w.cell? ⟨vb,j,none⟩=some v->W1.cell? ⟨vb,j,none⟩=some v:=λj v h=>by rw[Ba,World.cell?_alloc_past (w:=w.drew) _ vb j hvw];exact h
 have aeN:∀(W:World),(∀x,W.cell? x=W1.cell? x)->(∀x,W.frozen? x=W1.frozen? x)->∀ty dc,(Builtin.copy_ #[98,98] ty #[.slice (some ⟨w.heap.size,i,none⟩) (n+m-i) dc,.slice (some ⟨vb,QU,none⟩) m vc]).run Tryz.prog W=.ok (goInt vs.length) (W.setCells w.heap.size i vs):=λW Jj TG ty dc =>
  run_copy_cells W _ _ ty 29 w.heap.size i (n+m-i) dc ⟨vb,QU,none⟩ m vc vs aQ gm (by rw[LO];simp only[Dh];split<;>omega)
   (λj v hj=>by rw[Addr.add_lit,Jj];exact hOv _ v (Yz j v hj))
   (λj hj=>by rw[Jj];exact hN _ (by omega)) (λj hj=>by rw[TG];exact hNf _) OU
 have hGi:¬ (G=i):=by omega
 have agl:¬ (G=i+m):=by omega
 have xO:¬ (c=i):=by omega
 have hbN:b≠w.heap.size:=by omega
 have xC:(cs.drop i).length=n-i:=by rw[fA,fN]
 have ab4:∀(W:World),(∀x,W.cell? x=(W1.setCells w.heap.size i vs).cell? x)->(∀x,W.frozen? x=(W1.setCells w.heap.size i vs).frozen? x)->∀ty dc sc,(Builtin.copy_ #[98,98] ty #[.slice (some ⟨w.heap.size,i+m,none⟩) (n+m-(i+m)) dc,.slice (some ⟨b,off+i,none⟩) (n-i) sc]).run Tryz.prog W=.ok (goInt (cs.drop i).length) (W.setCells w.heap.size (i+m) (cs.drop i)):=λW Jj TG ty dc sc =>
  run_copy_cells W _ _ ty 29 w.heap.size (i+m) (n+m-(i+m)) dc ⟨b,off+i,none⟩ (n-i) sc (cs.drop i) aQ gm (by rw[xC];simp only[Dh];split<;>omega)
   (λj v hj=>by
    rw[Addr.add_lit,Jj,World.cell?_setCells_out _ _ _ _ _ (λh _=>absurd h hbN),oP];exact hOb _ v (kR (i+j) v (by rwa [fq] at hj)))
   (λj hj=>by rw[Jj];exact isSome_setCells _ _ _ _ (λt ht=>hN _ (by omega)) _ (hN _ (by omega)))
   (λj hj=>by rw[TG,World.frozen?_setCells];exact hNf _) (λv hv=>OT v (i_ hv))
 subst Ba;have LQ:∀x,((w.alloc (.cells I 29)).drew).cell? x=(w.drew.alloc (.cells I 29)).cell? x:=λx=>U;have LR:∀x,((w.alloc (.cells I 29)).drew).frozen? x=(w.drew.alloc (.cells I 29)).frozen? x:=λx=>U;have hF1:∀x,(((w.alloc (.cells I 29)).drew.setCells w.heap.size i vs).drew).cell? x=((w.drew.alloc (.cells I 29)).setCells w.heap.size i vs).cell? x:=λx=>U;have hF2:∀x,(((w.alloc (.cells I 29)).drew.setCells w.heap.size i vs).drew).frozen? x=((w.drew.alloc (.cells I 29)).setCells w.heap.size i vs).frozen? x:=λx=>U;have Kn:IntKind.i64.wrap ((i:Int)+(m:Int))=(i:Int)+(m:Int):=by rw[IntKind.wrap_i64];omega
 have lB:(0:Int)<=(i:Int)+(m:Int):=by omega
 have sV:i<=n:=by omega
 have htn:((i:Int)+(m:Int)).toNat=i+m:=by omega
 have NO:(i:Int)<=(n:Int):=by omega
 clear sZ XV hold QV hG LP;have mixed:Tryz.prog.follows .mixedOrders=true:=Ci;refine Calls.mono (R:=λe w'=>e=.returned (.slice (some ⟨w.heap.size,0,none⟩) (n+m) G)/\w'=(((w.alloc (.cells I 29)).drew.setCells w.heap.size i vs).drew).setCells w.heap.size (i+m) (cs.drop i)) ?_ (λe w' h=>⟨G,I,hGn,h.1,hRs,h.2,hRt⟩)
 go_enter zU,Tryz.ntmps52
 go_wp2_with (first
  |(at_builtin;refine Lib.wpList_append_run _ rfl _ _ _ _ rfl _ _ rfl rfl _ _ (YA _) ?_)
  |(at_builtin;refine wpList_copy_runI _ rfl _ _ 98 98 rfl _ _ rfl rfl (aeN _ LQ LR _ _) ?_)
  |(at_builtin;refine wpList_copy_runI _ rfl _ _ 98 98 rfl _ _ rfl rfl (ab4 _ (λ_=>U) (λ_=>U) _ _ _) ?_))
 go_region_law_o (refine step_copy_runI U _ _ 98 98 U (.slice (some ⟨w.heap.size,i+m,none⟩) (n+m-(i+m)) (G-(i+m))) (.slice (some ⟨b,off+i,none⟩) (n-i) (c-i)) (by simp[Act.eval,Act.put]) (by simp[Act.eval,Act.put]) (ab4 _ hF1 hF2 3 (G-(i+m)) (c-i)) ?_)
 go_wp2
 go_ret
 exact⟨U,U⟩
end Go.Proofs.YtdonpgpfplgigaaGreat.Am
namespace Go.Proofs.YtdonpgpfplgigaaGreat.Am
open Go
variable {ts:Array TypeId} {X Y:aE} {C:gO} {code:Code} {d:sF} {ε ah:bA} {A:bA->aE} {pg:bA->Int->List Nat} {lv dd:bA->Prop} {fn:Func} {h:H} {P':Int->List Nat} {lo:Ky} {now:List (Int×List Nat)} {cs cs':List (List Nat)} {E:List (Nat×V)} {S:List aE} {es:List En} {ks:List fo} {Ch:List fo->Nat->Prop} {b ps c R M M' data was:List Nat} {us args caps:List V} {a l k i x n N B id off kd link extra j sE g q r aR L K tx bj lk:Nat} {F:Nat->List (List Nat)->Prop} {ox oy:Operand} {hi:Option Ky} {P:Program} {α:Type} {t te t' e:TypeId} {rv y u z bv cv w kv:V}
theorem WA {b:Nat}{l m:List Nat}: cmpN (a::l) (b::m)=if a<b then -1 else if b<a then 1 else cmpN l m:=by
 show cond (Nat.blt a b) (.negSucc 0) (cond (Nat.blt b a) 1 (cmpN l m))=_;by_cases I:a<b
 .rw[gi.2 I,ag,ay I];rfl
 .have e1:Nat.blt a b=false:=by
   cases hq:Nat.blt a b with
   |true=>exact absurd (gi.1 hq) I
   |false=>rfl
  rw[e1,aT,ai I];by_cases h2:b<a
  .rw[gi.2 h2,ag,ay h2]
  .have e2:Nat.blt b a=false:=by
    cases hq:Nat.blt b a with
    |true=>exact absurd (gi.1 hq) h2
    |false=>rfl
   rw[e2,aT,ai h2]
theorem tY : ∀(a b:Ky),(cmpN a b<0↔a<b)/\(cmpN a b<=0↔a<=b):=by
 intro a;induction a with
 |nil =>
  intro b;cases b with
  |nil=>exact⟨⟨λh=>absurd h (by decide),λh=>absurd h (l9 _)⟩,⟨λ_=>nI _,λ_=>by decide⟩⟩
  |cons y b=>exact⟨⟨λ_=>vK _ _,λ_=>(show Int.negSucc 0<0 by decide)⟩,⟨λ_=>oQ (vK _ _),λ_=>(show Int.negSucc 0<=0 by decide)⟩⟩
 |cons x a ih =>
  intro b;cases b with
  |nil =>
   have I:cmpN (x::a) []=1:=rfl;have h2:([]:Ky)<x::a:=vK _ _;rw[I];exact⟨⟨λh=>absurd h (by decide),λh=>by grind⟩,⟨λh=>absurd h (by decide),λh=>by grind⟩⟩
  |cons y b =>
   obtain⟨i1,i2⟩:=ih b;rw[WA];by_cases I:x<y
   .rw[ay I];have:x::a<y::b:=List.cons_lt_cons_iff.2 (.inl I);exact⟨⟨λ_=>this,λ_=>by decide⟩,⟨λ_=>oQ this,λ_=>by decide⟩⟩
   .rw[ai I];by_cases h2:y<x
    .rw[ay h2];have:y::b<x::a:=List.cons_lt_cons_iff.2 (.inl h2);exact⟨⟨λh=>absurd h (by decide),λh=>by grind⟩,⟨λh=>absurd h (by decide),λh=>by grind⟩⟩
    .rw[ai h2];have e:x=y:=by omega
     subst e;have h3:x::a<x::b↔a<b:=by
      rw[He];exact⟨λh=>h.resolve_left (λq=>absurd q (Da _)) |>.2,λh=>.inr ⟨U,h⟩⟩
     have h4:x::a<=x::b↔a<=b:=by
      rw[<-List.not_lt,<-List.not_lt];have:x::b<x::a↔b<a:=by
       rw[He];exact⟨λh=>h.resolve_left (λq=>absurd q (Da _)) |>.2,λh=>.inr ⟨U,h⟩⟩
      rw[this]
     exact⟨i1.trans h3.symm,i2.trans h4.symm⟩
structure Way (ks:List fo)(k:Ky)(i:Nat): Prop where
 lt:i<ks.length
 le:∀j x,ks[j]?=some x->1<=j->j<=i->x.key<=k
 gt:∀j x,ks[j]?=some x->i<j->k<x.key
theorem Way.bd {k:Ky}(h:Way ks k i)(hb:Bd lo hi k): Bd (loK lo ks i) (cT hi ks i) k:=by
 refine⟨?_,λb I => ?_⟩
 .unfold loK;split
  .exact hb.1
  .have hk:ks[i]?=some (ks[i]'h.lt):=aF h.lt;rw[hk];exact h.le i _ hk (by omega) (aH _)
 .unfold cT at I;cases hk:ks[i+1]? with
  |none=>rw[hk] at I;exact hb.2 b I
  |some x =>
   rw[hk] at I;obtain rfl:=bD I;exact h.gt (i+1) x hk (by omega)
abbrev vf (n l:Nat)(bv cv:V): List V:=[.int .i64 (n:Int),.int .i64 (l:Int),bv,cv]
def aY (x n l:Nat)(b:List Nat)(cs:List (List Nat)): aE:=xs λbv:V=>xs λcv:V=>xs λus:List V=>star [pt x (.cells 4 (vf n l bv cv) false),.b8 bv b,roS 1 cv us,dy us cs]
def iQ (l:Nat)(c:List Nat): Prop:=if l=0 then 1<=c.length/\1+c.getD 0 0<=c.length else 4<=c.length
section
variable {P:Int->List Nat}
theorem aU : Sat h (aY x n l b cs::S)↔∃bv cv us,Sat h (pt x (.cells 4 (vf n l bv cv) false)::.b8 bv b::roS 1 cv us::dy us cs::S):=by
 simp[aY,jv,cY]
theorem Nv.cells (hN:Nv F P l lo hi cs es ps): ∀c∈cs,iQ l c/\c.length<=225/\(1<=l->c.length<=100):=by
 intro c hc;cases l with
 |zero =>
  obtain⟨rfl,h2,rfl⟩:=hN;obtain⟨e,he,rfl⟩:=List.mem_map.1 hc;obtain⟨s1,s2,s3⟩:=h2.sz e he;refine⟨?_,?_,λh=>by omega⟩
  .show 1<=(eB e).length/\1+(eB e).getD 0 0<=(eB e).length;exact⟨by simp[eB],by simp[eB];omega⟩
  .simp[eB];omega
 |succ l =>
  obtain⟨ks,rfl,h2,rfl,rfl,h5⟩:=hN;obtain⟨i,hi⟩:=List.mem_iff_getElem?.1 hc;have I:=(List.getElem?_eq_some_iff.1 hi).1;rw[dn] at I;have hk:ks[i]?=some (ks[i]'I):=aF I;rw[gX hk] at hi;obtain rfl:=bD hi;have h4:=cQ 4 (ks[i]'I).pg;have qa:=h2.len _ (aJ hk);have hl:(e_ (ks[i]'I).pg (ks[i]'I).key).length=4+(ks[i]'I).key.length:=by rw[e_,aO,h4]
  exact⟨by rw[iQ,ai (by omega),hl];omega,by rw[hl];omega,λ_=>by rw[hl];omega⟩
end
def Sm (N:Nat)(ε ah:bA): Prop:=(∀m,pgA ah m=pgA ε m)/\(∀P:VP,uX N P->vw P ε->vw P ah)/\cW ah<=cW ε
theorem Sm.refl (N:Nat)(ε:bA): Sm N ε ε:=⟨λ_=>U,λ_ _ h=>h,aH _⟩
theorem Sm.trans {a b c:bA}(h:Sm N a b)(g:Sm N b c): Sm N a c:=⟨λm=>(g.1 m).trans (h.1 m),λP I hv=>g.2.1 P I (h.2.1 P I hv),cN g.2.2 h.2.2⟩
structure mE (told : cu) (N B : Nat) (rv : V) (A : bA → aE) (pg : bA → Int → List Nat) : Prop where
 iface : ∃ ty u f, rv = .iface ty u ∧ methV Tryz.prog ty "Read" = some f ∧ ∀ {h : H} {S : List aE} {ε : bA} {n : Int}, EI N B ε → 0 ≤ n → n < N → Sat h (A ε :: S) →
  Call ⟨Tryz.prog, told⟩ f [u, .int .i64 n] h fun v h' => ∃ w ah, v = .aX [w, .int .i64 0] ∧ EI N B ah ∧ Sm N ε ah ∧ Sat h' (bf w (pg ε n) :: A ah :: S)
 same : ∀ {ε ah : bA}, Sm N ε ah → ∀ m, pg ah m = pg ε m
structure Jk (told : cu) (N : Nat) (lv dd : bA → Prop) (sm : bA → bA → Prop) (rv : V) (A : bA → aE) (pg : bA → Int → List Nat) : Prop where
 iface : ∃ ty u f, rv = .iface ty u ∧ methV Tryz.prog ty "Read" = some f ∧ ∀ {h : H} {S : List aE} {ε : bA} {n : Int}, lv ε → 0 ≤ n → n < N → Sat h (A ε :: S) →
  Call ⟨Tryz.prog, told⟩ f [u, .int .i64 n] h fun v h' => (∃ ah, v = .aX [.aZ, .int .i64 9] ∧ dd ah ∧ Sat h' (A ah :: S)) ∨ ∃ w ah, v = .aX [w, .int .i64 0] ∧ lv ah ∧ sm ε ah ∧ Sat h' (bf w (pg ε n) :: A ah :: S)
 same : ∀ {ε ah : bA}, sm ε ah → ∀ m, pg ah m = pg ε m
 tr : ∀ {a b c : bA}, sm a b → sm b c → sm a c
abbrev noD : bA->Prop:=λ_=>False
theorem mE.m {told:cu}(I:mE told N B rv A pg): Jk told N (EI N B) noD (Sm N) rv A pg:=by
 obtain⟨ty,u,f,e,hm,hr⟩:=I.iface;exact⟨⟨ty,u,f,e,hm,λa b c s=>(hr a b c s).mono λ_ _ k=>.inr k⟩,I.same,Sm.trans⟩
section
variable {v c:V} {cs:List V}
theorem Sat.Cv (s:Sat h S)(hk:getA S k=some (.arr 1 v cs))(hi:cs[i]?=some c)(hu:P.underlying t=some (.slice te))(I:bq P te=some 1)(e:indexAddrV P t v (.int .i64 (i:Int))=some (.ptr id off))(ha:isAggT P t'=some false): loadV P h t' (.ptr id off)=some c:=by
 grind[kX]
theorem v_ {s d:TypeId}{x:Operand}{r:V}{h₁:H}(I:bE E x=some v)(h1:convV P h s d v=none)(h2:convB P h s d v=some (r,h₁)): opE P E h (.convert s d x)=some (r,h₁):=by
 grind[opE,lD]
end
def jj : List Nat:=[109,117,110,105,109,101,110,116]
theorem WC : buildSliceV Tryz.prog h 29 8 [(0,.int .u8 109),(1,.int .u8 117),(2,.int .u8 110),(3,.int .u8 105),(4,.int .u8 109),(5,.int .u8 101),(6,.int .u8 110),(7,.int .u8 116)]=some (.sl h.next 0 8 (.exact 8),newRow h (ofBytes jj)):=by
 simp only[buildSliceV,aP,fO,qY,V.cells];rfl
theorem AO {x y:Operand}{b:Nat}(I:0<b)(hw:a<9223372036854775808): binV P h .quo t x y (.int .i64 (a:Int)) (.int .i64 (b:Int))=some (.int .i64 ((a/b:Nat):Int)):=by
 simp only[binV,ikBeq,ag,intV];have:intBeq (b:Int) 0=false:=by rw[sM];simp;omega
 have h2:a/b<=a:=Hw a b;grind[ak]
section
variable {told:cu} {v x:V} {l:List Nat} {sm:bA->bA->Prop}
theorem LS (hT:W told)(s:Sat h S): Call ⟨Tryz.prog,told⟩ 99 [] h λr h'=>Sat h' (.b8 r jj::S):=by
 refine Call.of_wp (hT.free _ U) Tryz.func99 U U (zK 6 U (au.any U U U (OpR.of (R:=λv h'=>v=.sl h.next 0 8 (.exact 8)/\h'=newRow h (ofBytes jj)) (je U WC) ⟨U,U⟩) ?_))
 rintro v I ⟨rfl,rfl⟩;have s1:Sat (newRow h (ofBytes jj)) (pt h.next (.cells 8 (ofBytes jj) false)::S):=s.new _
 generalize newRow h (ofBytes jj)=I at s1;generalize h.next=id at s1
 have hg:=s1.row (k:=0) U;have e1:convB Tryz.prog I 29 29 (.sl id 0 8 (.exact 8))=some (.sl id 0 8 (.exact 8),I.put id (some (.cells 8 (ofBytes jj) true))):=by
  simp only[convB,aP,Tryz.underlying5,hg];rfl
 have e0:convV Tryz.prog I 29 29 (.sl id 0 8 (.exact 8))=none:=by
  simp only[convV,aP]
 have s2:Sat (I.put id (some (.cells 8 (ofBytes jj) true))) (pt id (.cells 8 (ofBytes jj) true)::S):=s1.put (k:=0) U;have s3:Sat (I.put id (some (.cells 8 (ofBytes jj) true))) (.b8 (.sl id 0 8 (.exact 8)) jj::S):=s2.freeze.dM (B:=.b8 (.sl id 0 8 (.exact 8)) jj) λm r hm=>⟨by decide,.inr ⟨id,0,.exact 8,8,_,true,U,hm,U,by decide,U,by decide⟩⟩;refine au.any U U U (OpR.of (R:=λv h'=>v=.sl id 0 8 (.exact 8)/\h'=I.put id (some (.cells 8 (ofBytes jj) true))) (v_ U e0 e1) ⟨U,U⟩) ?_;rintro v h2 ⟨rfl,rfl⟩;exact zk 2 U (WP.ret ⟨aa,_,U,s3⟩)
theorem Jl (hT:W told)(hx:View h x l)(hy:View h y c): Call ⟨Tryz.prog,told⟩ 118 [x,y] h λr h'=>r=.bool (decide (l=c))/\h'=h:=by
 refine Call.of_wp (hT.free _ U) Tryz.func118 U U (zK 7 U (zo U (cS U (Co hx)) (zm U (zo U (cS U (Co hy)) ?_))));by_cases I:l=c
 .skip;exact zB U P7 (decide_eq_true I) (zk 2 U (WP.ret ⟨aa,_,U,by rw[dZ I],U⟩))
 .skip;exact zC U P7 (decide_eq_false I) (zk 2 U (WP.ret ⟨aa,_,U,by rw[f_ I],U⟩))
theorem Cw (I:W told)(h1:1<=n)(h2:n<=3000): Call ⟨Tryz.prog,told⟩ 90 [.int .i64 (n:Int)] h λr h'=>r=.int .i64 2/\h'=h:=by
 have e:(n+2999)/3000=1:=by omega
 refine Call.of_wp (I.free _ U) Tryz.func90 U U (zK 7 U (zb U (by exact aL ak) ?_));refine zb U (by exact dV ak) ?_;refine zo U (aq (r:=.int .i64 (((n+2999)/3000:Nat):Int)) U U (by rw[show(n:Int)+3000-1=((n+2999:Nat):Int) by omega];exact AO (by decide) (by omega))) ?_;rw[e];refine zb U (by exact aL ak) ?_;exact zk 2 U (WP.ret ⟨aa,_,U,U,U⟩)
theorem aae (hT:W told)(hR:Jk told N lv dd sm rv A pg)(cn:lv ε)(hN:1<=N)(hp:fh (pg ε 0) 201 n extra [jj,R])(LP:R.length=64)(s:Sat h (A ε::S)):
  Call ⟨Tryz.prog,told⟩ 163 [rv] h λv h'=>(∃ah,v=.aX [.aZ,.int .i64 0,.bool false,.int .i64 9]/\Sat h' (A ah::S)/\dd ah)\/∃u ah,v=.aX [u,.int .i64 (n:Int),.bool true,.int .i64 0]/\lv ah/\sm ε ah/\Sat h' (bf u R::A ah::S):=by
 obtain⟨ty,u,f,rfl,hm,jm⟩:=hR.iface;refine Call.of_wp (hT.free _ U) Tryz.func163 U U (zK 10 U (au.any U U U (OpR.invoke U U U hm U (jm cn (by decide) (by omega) s)) ?_));rintro v h (⟨ah,rfl,hd,s⟩|⟨u,ah,rfl,va,hs,s⟩)
 .skip;refine zk 10 U (zB U aG (by decide) ?_);exact zk 10 U (WP.ret ⟨aa,_,U,.inl ⟨ah,U,s,hd⟩⟩)
 refine zk 10 U (zC U aG (U) (zk 6 U (zc U (QM hT s (bh _ _) hp) ?_)));rintro v h ⟨w,u0,u1,rfl,s⟩;obtain⟨YB,I,g1,g2⟩:=kX (P:=Tryz.prog) s (k:=0) (i:=0) (c:=u0) U U aQ dP;obtain⟨id1,ab5,g3,g4⟩:=kX (P:=Tryz.prog) s (k:=0) (i:=1) (c:=u1) U U aQ dP;have xN:=(s.uT (j:=0) U).2.2;have nh:=nR (s.buf (k:=1) U).view;refine zk 8 U ?_;have s0:=s;refine WP.drawn [af,af,af,af,af,af,af,af,some (0,2),some (0,2),some (0,2),af,af,af,af,af,af,af,af,af,af,af] U (by kernel_rfl) (by kernel_rfl) ?_;refine zM U (aB.rW U U U U (aq U U aG) (by decide) ?_);refine zM U (zM U (zO U (aD U U U (s.fS (n:=2) (j:=0) U U (by decide) aQ)) ?_));refine aB.rW U U U U (aq U U aG) (by decide) ?_;refine zO U (rU U U) (zM U (zM U (zO U (bM (r:=.ptr YB I) U U g1) (zL U (s.Cv (k:=0) (i:=0) U U aQ dP g1 bS) (aB.any U U U U (OpR.call U U U U (LS hT s)) ?_)))));intro mv h s;have s:=s.ae [1,1,1,1,1,0];have s1:=s;refine aB.any U U U U (OpR.call U U U U (Jl hT (s.buf (k:=1) U).view (s.aC (k:=5) U (bp _ _)))) ?_;rintro r h' ⟨rfl,rfl⟩;rw[show decide (jj=jj)=true from dZ U];refine zO U (eo U U) (zO U (rU U U) (zM U (zM U (zO U (bM (r:=.ptr id1 ab5) U U g3) (zL U (s.Cv (k:=0) (i:=1) U U aQ dP g3 bS) (zO U (aD U U U (bw aP (s.aC (k:=2) U (bh _ _)))) ?_))))));rw[LP];refine aB.rW U U U U (aq U U aG) (by decide) ?_;refine zO U (rU U U) ?_;refine aB.nil ⟨⟨aa,aa,aa,aa,aa,aa,aa,aa,λ_ _=>.inr ⟨U,⟨_,b7 U⟩,xN⟩,λ_ _=>.inr ⟨U,⟨_,bM (r:=.ptr YB I) U U g1⟩,bx _ U⟩,gF (.inr ⟨U,⟨_,o_load U (s0.Cv (k:=0) (i:=0) U U aQ dP g1 bS)⟩,nh⟩) (.inr ⟨U,⟨_,o_load U (s1.Cv (k:=0) (i:=0) U U aQ dP g1 bS)⟩,nh⟩),yr 12⟩,?_⟩;refine zK 5 U ?_;have IA:=hp.len;refine zc U (H6 hT (s.ae [3]) (bh _ _) (by omega)) ?_;rintro v h ⟨s,(⟨hg,rfl⟩|⟨hg,rfl⟩)⟩
 .rw[show(pg ε 0).getD 12 0=201 from hp.kind,show dQ (pg ε 0) 18 4=n from hp.link];have s:=s.ae [1,1,1,1,0];refine zk 16 U (zC U aG (by decide) ?_);exact zk 6 U (zo U (bM (r:=.ptr id1 ab5) U U g3) (zl U (s.Cv (k:=0) (i:=1) U U aQ dP g3 bS) (zk 6 U (WP.ret ⟨aa,_,U,.inr ⟨_,ah,U,va,hs,(((((s.ae [2,2]).del 5).del 4).del 3).del 2)⟩⟩))))
 .rw[hp.good] at hg;cases hg
theorem GD (hT:W told)(hR:Jk told N lv dd sm rv A pg)(cn:lv ε)(hN:1<=N)(hp:fh (pg ε 0) 201 n extra [jj,R])(LP:R.length=64)(s:Sat h (A ε::S)):
  Call ⟨Tryz.prog,told⟩ 89 [rv] h λv h'=>(∃ah,v=.aX [.aZ,.int .i64 0,.int .i64 9]/\Sat h' (A ah::S)/\dd ah)\/∃u ah,v=.aX [u,.int .i64 (n:Int),.int .i64 0]/\lv ah/\sm ε ah/\Sat h' (bf u R::A ah::S):=by
 refine Call.of_wp (hT.free _ U) Tryz.func89 U U (zK 9 U (zc U (aae hT hR cn hN hp LP s) ?_));rintro v h (⟨ah,rfl,s,hd⟩|⟨u,ah,rfl,I,hs,s⟩)
 .skip;refine zk 11 U (WP.block (zK 3 U (zB U aG (by decide) ?_)));exact zk 10 U (WP.ret ⟨aa,_,U,.inl ⟨ah,U,s,hd⟩⟩)
 refine zk 9 U (zv (zw (WP.block (zg U (zm U (zh U (aq U U aG) (U) (za U (zv (zj U (zg U (zm U (zo U (eo U U) (za U (zv (zj U (WP.skip (zg U (zk 5 U (zv ?_)))))))))))))))))));refine WP.ret ⟨aa,_,U,?_⟩;exact .inr ⟨u,ah,U,I,hs,s⟩
theorem aaf (hT:W told)(hR:mE told N B rv A pg)(I:EI N B ε)(hN:1<=N)(hp:fh (pg ε 0) 201 n extra [jj,R])(LP:R.length=64)(s:Sat h (A ε::S)):
  Call ⟨Tryz.prog,told⟩ 89 [rv] h λv h'=>∃u ah,v=.aX [u,.int .i64 (n:Int),.int .i64 0]/\EI N B ah/\Sm N ε ah/\Sat h' (bf u R::A ah::S) :=
 (GD hT hR.m I hN hp LP s).mono λ_ _ k=>k.resolve_left λ⟨_,_,_,q⟩=>q
theorem zV (hT:W told)(hR:Jk told N lv dd sm rv A pg)(cn:lv ε)(hN:2<=N)(hp:fh (pg ε 1) kd link extra [M])(hM:M.length=375)(s:Sat h (A ε::S)):
  Call ⟨Tryz.prog,told⟩ 91 [rv,.int .i64 0] h λv h'=>(∃ah,v=.aX [.aZ,.aZ,.int .i64 9]/\Sat h' (A ah::S)/\dd ah)\/∃w u ah,v=.aX [w,u,.int .i64 0]/\lv ah/\sm ε ah/\Sat h' (bf u M::bf w (pg ε 1)::A ah::S):=by
 obtain⟨ty,u,f,rfl,hm,jm⟩:=hR.iface;refine Call.of_wp (hT.free _ U) Tryz.func91 U U (zK 11 U (zb U (by exact aL ak) ?_));refine au.any U U U (OpR.invoke U U U hm U (jm (n:=1) cn (by decide) (by omega) s)) ?_;rintro v h (⟨ah,rfl,hd,s⟩|⟨w,ah,rfl,I,hs,s⟩)
 .skip;refine zk 9 U (zB U aG (by decide) ?_);exact zk 9 U (WP.ret ⟨aa,_,U,.inl ⟨ah,U,s,hd⟩⟩)
 refine zk 9 U (zC U aG (U) (zk 6 U (zc U (Wp (i:=0) hT s (bh _ _) hp U) ?_)));rintro v h ⟨u,rfl,s⟩;refine zk 10 U (zC U aG (U) (zk 2 U (zo U (aD U U U (bw aP (s.aC (k:=0) U (bh _ _)))) ?_)));rw[hM];refine zC U aG (by decide) ?_;exact zk 12 U (WP.ret ⟨aa,_,U,.inr ⟨w,u,ah,U,I,hs,s⟩⟩)
theorem WD (hT:W told)(hR:mE told N B rv A pg)(I:EI N B ε)(hN:2<=N)(hp:fh (pg ε 1) kd link extra [M])(hM:M.length=375)(s:Sat h (A ε::S)):
  Call ⟨Tryz.prog,told⟩ 91 [rv,.int .i64 0] h λv h'=>∃w u ah,v=.aX [w,u,.int .i64 0]/\EI N B ah/\Sm N ε ah/\Sat h' (bf u M::bf w (pg ε 1)::A ah::S) :=
 (zV hT hR.m I hN hp hM s).mono λ_ _ k=>k.resolve_left λ⟨_,_,_,q⟩=>q
end
def bt (M:List Nat)(i:Nat): Bool:=(M.getD (i/8) 0).testBit (i%8)
def GF (M:List Nat)(i:Nat): List Nat:=M.set (i/8) (Nat.lor (M.getD (i/8) 0) (2^(i%8)))
def Jm (M:List Nat)(i:Nat): List Nat:=M.set (i/8) (Nat.land (M.getD (i/8) 0) (255-2^(i%8)))
theorem LU {b:Nat}(hi:i<M.length): (M.set i b).getD j 0=if i=j then b else M.getD j 0:=by
 grind
theorem YC (hi:i/8<M.length): bt (GF M i) j=if j=i then true else bt M j:=by
 unfold bt GF;rw[LU hi];by_cases h:i/8=j/8
 .rw[ay h,show Nat.lor (M.getD (i/8) 0) (2^(i%8))=(M.getD (i/8) 0) ||| (2^(i%8)) from rfl,Nat.testBit_or,Nat.testBit_two_pow,h];grind
 .grind
theorem YD (hi:i/8<M.length): bt (Jm M i) j=if j=i then false else bt M j:=by
 unfold bt Jm;rw[LU hi];by_cases h:i/8=j/8
 .have e:255-2^(i%8)=2^8-(2^(i%8)+1):=by omega
  have I:2^(i%8)<2^8:=yB (by decide) (by omega);rw[ay h,show Nat.land (M.getD (i/8) 0) (255-2^(i%8))=(M.getD (i/8) 0) &&& (255-2^(i%8)) from U,Nat.testBit_and,e,Nat.testBit_two_pow_sub_succ I,Nat.testBit_two_pow,h];grind
 .grind
theorem OV : (GF M i).length=M.length:=cG
theorem OW : (Jm M i).length=M.length:=cG
theorem TH (I:a<256)(hk:k<8): Nat.lor a (2^k)<256:=Nat.or_lt_two_pow (n:=8) I (yB (by decide) hk)
theorem Ik {c:Nat}(I:a<256): Nat.land a c<256:=Hj Nat.and_le_left I
def nf (x:Nat): Nat:=((List.range 8).filter λi => !x.testBit i).headD 8
theorem OX : ∀x,x<255->nf x<8/\x.testBit (nf x)=false/\∀j,j<nf x->x.testBit j=true:=by
 have:∀x,x<255->(decide (nf x<8)&&(!x.testBit (nf x)&&(List.range (nf x)).all λj=>x.testBit j))=true:=by decide +kernel
 grind
theorem aeO : ∀x,x<256->(∀j,j<8->x.testBit j=true)->x=255:=by
 have:∀x,x<256->((List.range 8).all λj=>x.testBit j)=true->x=255:=by decide +kernel
 grind
theorem GG (I:j<8): bt M (8*k+j)=(M.getD k 0).testBit j:=by
 grind[bt]
section
variable {x y:Operand} {b:Nat}
theorem TI (I:k<8): binV P h .shr t x y (.int .u8 (a:Int)) (.int .i64 (k:Int))=some (.int .u8 ((a/2^k:Nat):Int)):=by
 simp only[binV,shiftV,IntKind.bits,fI];grind
theorem ab6 (I:k<8): binV P h .shl t x y (.int .u8 1) (.int .i64 (k:Int))=some (.int .u8 ((2^k:Nat):Int)):=by
 have cq:2^k<256:=yB (a:=2) (n:=8) (by decide) I;simp only[binV,shiftV,IntKind.bits,fI];grind[uB]
theorem DQ {op:BinOp}{f:Nat->Nat->Nat}(I:a<256)(hb:b<256)(hf:f a b<256)(he:bitsV op .u8 (a:Int) (b:Int)=some (.int .u8 (IntKind.u8.wrap (f ((a:Int)%(2^(IntKind.u8).bits:Int)).toNat ((b:Int)%(2^(IntKind.u8).bits:Int)).toNat:Nat)))):
  bitsV op .u8 (a:Int) (b:Int)=some (.int .u8 ((f a b:Nat):Int)):=by
 grind[IntKind.bits,uB]
theorem TJ (I:a<256)(hb:b<256): binV P h .and t x y (.int .u8 (a:Int)) (.int .u8 (b:Int))=some (.int .u8 ((Nat.land a b:Nat):Int)):=by
 simp only[binV,ikBeq,ag,intV];exact DQ (f:=Nat.land) I hb (Ik I) U
theorem adK (I:a<256)(hk:k<8): binV P h .or t x y (.int .u8 (a:Int)) (.int .u8 ((2^k:Nat):Int))=some (.int .u8 ((Nat.lor a (2^k):Nat):Int)):=by
 simp only[binV,ikBeq,ag,intV];exact DQ (f:=Nat.lor) I (yB (a:=2) (n:=8) (by decide) hk) (TH I hk) U
theorem TK (I:a<256)(hb:b<256): binV P h .andNot t x y (.int .u8 (a:Int)) (.int .u8 (b:Int))=some (.int .u8 ((Nat.land a (255-b):Nat):Int)):=by
 simp only[binV,ikBeq,ag,intV];exact DQ (f:=λa b=>Nat.land a (255-b)) I hb (Ik I) U
theorem LV (I:a<256): unV .xor (.int .u8 (a:Int))=some (.int .u8 ((255-a:Nat):Int)):=by
 have:∀a,a<256->Nat.xor 255 a=255-a:=by decide +kernel
 have e:bitsV .xor .u8 ((255:Nat):Int) (a:Int)=some (.int .u8 ((Nat.xor 255 a:Nat):Int)):=DQ (f:=Nat.xor) (by decide) I (by grind) U;rw[this a I] at e;exact e
theorem ab7 : Nat.land (a/2^k) 1=if a.testBit k=true then 1 else 0:=by
 rw[Nat.testBit_eq_decide_div_mod_eq,show Nat.land (a/2^k) 1=(a/2^k) &&& 1 from U,Nat.and_one_is_mod];grind
theorem ab8 {f:Nat->Nat}{L:List Nat}(hu:P.underlying t=some .string)(I:∀x,x<256->nth L x=some (f x))(ha:a<256): indexV P t (.str L) (.int .u8 (a:Int))=some (.int .u8 ((f a:Nat):Int)):=by
 simp_all[indexV]
end
section
variable {told:cu} {v x:V} {l:List Nat}
theorem LW (I:W told)(ha:a<256): Call ⟨Tryz.prog,told⟩ 204 [.int .u8 ((255-a:Nat):Int)] h λr h'=>r=.int .i64 (nf a:Nat)/\h'=h:=by
 have hle:∀a,a<256->nf a<=8:=by decide +kernel
 have hle:=hle a ha;have he:nf (255-(255-a))=nf a:=by rw[show 255-(255-a)=a by omega]
 refine Call.of_wp (I.free _ U) Tryz.func204 U U (zK 7 U (zo U (Ak U U (ab8 (f:=λx=>nf (255-x)) oF (by decide +kernel) (by omega))) ?_));rw[he];refine zo U (cS U (by exact kU Tryz.underlying5 b_ ak)) ?_;exact zk 2 U (WP.ret ⟨aa,_,U,U,U⟩)
noncomputable def lwL : Code:=dm [1,1,1,0,1,0,0,1,1,0,0,1,1,1,1,0,0] ((Tryz.f162.body).getD .skip)
theorem WE (hT:W told){lo:Nat}(hv:View h u M)(hM:M.length=375)(hn:n<=3000)(jG:lo<n)(h0:bt M lo=false)(h1:∀j,j<lo->bt M j=true): ∀(m k:Nat) (E:List (Nat×V)) (Q:Ex->List (Nat×V)->H->Prop),k+m=lo/8 ->
  Has E [(5,.int .i64 (n:Int)),(7,.int .i64 0),(39,u),(40,.int .i64 375),(41,.int .i64 (k:Int))] ->
  (∀E',look E' 2=some (.int .i64 (lo:Int))->look E' 3=some (.int .i64 0)->Q .ret E' h)->WP ⟨Tryz.prog,told⟩ 65 (.loop lwL) E h Q:=by
 intro m;induction m with
 |zero =>
  intro k E Q hk hE hq;have hb:M[k]?=some (M[k]'(by omega)):=aF _;have I:M.getD k 0=M[k]'(by omega):=by rw[tu,hb];rfl
  generalize (M[k]'(by omega))=x at hb I;have hx:x<256:=hv.1 x (aJ hb);obtain⟨id,off,e1,e2⟩:=eU hv hb;have IN:x≠255:=λe=>by
   have:=GG (M:=M) (k:=k) (j:=lo%8) (by omega);rw[show 8*k+lo%8=lo by omega,h0,I,e] at this;have q:∀j,j<8->(255:Nat).testBit j=true:=by decide
   rw[q _ (by omega)] at this;cases this
  obtain⟨w1,w2,w3⟩:=OX x (by omega);have hl:8*k+nf x=lo:=by
   have a1:=GG (M:=M) (k:=k) (j:=nf x) w1;rw[I,w2] at a1;rcases tI (8*k+nf x) lo with q|q
   .rw[h1 _ q] at a1;cases a1
   .by_cases q2:lo%8<nf x
    .have:=w3 _ q2;have a2:=GG (M:=M) (k:=k) (j:=lo%8) (by omega);rw[show 8*k+lo%8=lo by omega,h0,I,this] at a2;cases a2
    .omega
  refine WP.loop (WP.has hE (zg U (zB U aK (by simp;omega) ?_)));refine zk 5 U (WP.block (zK 3 U (zo U (bM (r:=.ptr id off) U U e1) (zl U e2 (zk 6 U (zb U (by exact jf ak) ?_))))));refine zm U (zb U (by exact jf ak) ?_);refine zb U (by exact aL ak) ?_;refine zm U (zo U (eo U (LV hx)) (zc U (LW hT hx) ?_));rintro v h' ⟨rfl,rfl⟩;refine zo U (aq (r:=.int .i64 (lo:Int)) U U (by rw[<-hl,show(((8*k+nf x:Nat):Int))=(3000*0+8*(k:Int))+(nf x:Int) by omega];exact aL ak)) ?_;refine zk 5 U (zB U aG (by simp;omega) ?_);refine zk 3 U (zB U aK (by simp;omega) ?_);exact zk 9 U (WP.ret (hq _ U U))
 |succ m ih =>
  intro k E Q hk hE hq;have hb:M[k]?=some (M[k]'(by omega)):=aF _;have I:M.getD k 0=M[k]'(by omega):=by rw[tu,hb];rfl
  generalize (M[k]'(by omega))=x at hb I;have hx:x<256:=hv.1 x (aJ hb);obtain⟨id,off,e1,e2⟩:=eU hv hb;have IN:x=255:=aeO x hx λj hj=>by rw[<-I,<-GG hj];exact h1 _ (by omega)
  have TL:∀a,a<256->nf a<=8:=by decide +kernel
  have TL:=TL x hx;refine WP.loop (WP.has hE (zg U (zB U aK (by simp;omega) ?_)));refine zk 5 U (WP.block (zK 3 U (zo U (bM (r:=.ptr id off) U U e1) (zl U e2 (zk 6 U (zb U (by exact jf ak) ?_))))));refine zm U (zb U (by exact jf ak) ?_);refine zb U (by exact aL ak) ?_;refine zm U (zo U (eo U (LV hx)) (zc U (LW hT hx) ?_));rintro v h' ⟨rfl,rfl⟩;refine zb U (by exact aL ak) ?_;refine zk 5 U (zC U aG (by simp;omega) ?_);refine zk 5 U (zv (zj U (WP.skip (zr U (zb U (by exact aL ak) ?_)))));refine zm U (zv ?_);exact ih (k+1) _ Q (by omega) ⟨U,U,U,U,U,aa⟩ hq
theorem TM (hT:W told)(hv:View h u M)(hM:M.length=375)(hn:n<=3000)(h1:∀j,j<n->bt M j=true)(h0:∀j,n<=j->bt M j=false): ∀(m k:Nat) (E:List (Nat×V)) (Q:Ex->List (Nat×V)->H->Prop),k+m=375 ->
  Has E [(5,.int .i64 (n:Int)),(7,.int .i64 0),(25,.int .i64 1),(26,.int .i64 0),(39,u),(40,.int .i64 375),(41,.int .i64 (k:Int))] ->
  (∀E',Has E' [(25,.int .i64 1),(26,.int .i64 0)]->Q (.exit 2) E' h)->WP ⟨Tryz.prog,told⟩ 65 (.loop lwL) E h Q:=by
 intro m;induction m with
 |zero =>
  intro k E Q hk I hq;refine WP.loop (WP.has I (zg U (zC U aK (by simp;omega) ?_)));exact zk 3 U (WP.exit (hq _ ⟨U,U,aa⟩))
 |succ m ih =>
  intro k E Q hk I hq;have hb:M[k]?=some (M[k]'(by omega)):=aF _;have qQ:M.getD k 0=M[k]'(by omega):=by rw[tu,hb];rfl
  generalize (M[k]'(by omega))=x at hb qQ;have hx:x<256:=hv.1 x (aJ hb);obtain⟨id,off,e1,e2⟩:=eU hv hb;have TL:∀a,a<256->nf a<=8:=by decide +kernel
  have TL:=TL x hx;have next:=λE I=>ih (k+1) E Q (by omega) I hq
  refine WP.loop (WP.has I (zg U (zB U aK (by simp;omega) ?_)));refine zk 5 U (WP.block (zK 3 U (zo U (bM (r:=.ptr id off) U U e1) (zl U e2 (zk 6 U (zb U (by exact jf ak) ?_))))));refine zm U (zb U (by exact jf ak) ?_);refine zb U (by exact aL ak) ?_;refine zm U (zo U (eo U (LV hx)) (zc U (LW hT hx) ?_));rintro v h' ⟨rfl,rfl⟩;refine zb U (by exact aL ak) ?_;refine zk 5 U ?_;by_cases IN:x=255
  .skip;refine zC U aG (by simp;omega) ?_;refine zk 5 U (zv (zj U (WP.skip (zr U (zb U (by exact aL ak) ?_)))));refine zm U (zv ?_);exact next _ ⟨U,U,U,U,U,U,U,aa⟩
  .obtain⟨w1,w2,w3⟩:=OX x (by omega);have IG:n<=8*k+nf x:=by
    rcases tI (8*k+nf x) n with q|q
    .have:=h1 _ q;rw[GG w1,qQ,w2] at this;cases this
    .exact q
   refine zB U aG (by simp;omega) ?_;refine zk 3 U (zC U aK (by simp;omega) ?_);refine zq U (zv (zj U (WP.skip (zr U (zb U (by exact aL ak) ?_)))));refine zm U (zv ?_);exact next _ ⟨U,U,U,U,U,U,U,aa⟩
end
section
variable {x y:Operand}
theorem QW (I:n<3000): binV P h .quo t x y (.int .i64 (n:Int)) (.int .i64 3000)=some (.int .i64 0):=by
 have:=AO (P:=P) (h:=h) (t:=t) (x:=x) (y:=y) (a:=n) (b:=3000) (by decide) (by omega);rw[show n/3000=0 by omega] at this;exact this
theorem QX (I:n<3000): binV P h .rem t x y (.int .i64 (n:Int)) (.int .i64 3000)=some (.int .i64 (n:Int)):=by
 have:=La (P:=P) (h:=h) (t:=t) (x:=x) (y:=y) (a:=n) (b:=3000) (by decide);rw[show n%3000=n by omega] at this;exact this
theorem LX : binV P h .eql t x y (.int .u8 ((Nat.land (a/2^k) 1:Nat):Int)) (.int .u8 1)=some (.bool (a.testBit k)):=by
 rw[ab7];cases h:a.testBit k<;>rfl
theorem ab9 {k:IntKind}{a b:Int}: builtinV P h .min ts [.int k a,.int k b]=some (.int k (min a b),h):=by
 grind[builtinV,foldV,Bi,fe]
end
section
variable {told:cu} {v x:V} {l:List Nat} {sm:bA->bA->Prop}
structure fU (n:Nat)(R M:List Nat)(p:Int->List Nat): Prop where
 head:∃ex,fh (p 0) 201 n ex [jj,R]
 rl:R.length=64
 marks:∃kd lk ex,fh (p 1) kd lk ex [M]
 ml:M.length=375
 n1:2<=n
 n2:n<=2999
 own:∀j,j<2->bt M j=true
 hi:∀j,n<=j->bt M j=false
theorem WG (hT:W told)(hR:Jk told N lv dd sm rv A pg)(cn:lv ε)(hN:2<=N)(hp:fU n R M (pg ε)){lo:Nat}(jG:lo<n)(h0:bt M lo=false)(h1:∀j,j<lo->bt M j=true)(s:Sat h (A ε::S)):
  Call ⟨Tryz.prog,told⟩ 162 [rv] h λv h'=>(∃ah,v=.aX [.int .i64 0,.int .i64 9]/\Sat h' (A ah::S)/\dd ah)\/∃ah,v=.aX [.int .i64 (lo:Int),.int .i64 0]/\lv ah/\sm ε ah/\Sat h' (A ah::S):=by
 obtain⟨ex,rS⟩:=hp.head;obtain⟨kd,lk,sE,I⟩:=hp.marks;have hM:=hp.ml;have qu:=hp.n2;refine Call.of_wp (hT.free _ U) Tryz.func162 U U (zK 8 U (zc U (GD hT hR cn (by omega) rS hp.rl s) ?_));rintro v h (⟨c_,rfl,s,hd⟩|⟨u,c_,rfl,kD,ej,s⟩)
 .skip;refine zk 12 U (zB U aG (by decide) ?_);exact zk 8 U (WP.ret ⟨aa,_,U,.inl ⟨c_,U,s,hd⟩⟩)
 refine zk 12 U (zC U aG (U) (zk 7 U (zc U (Cw hT (by omega) (by omega)) ?_)));rintro v h' ⟨rfl,rfl⟩;refine zb U (by exact dV ak) ?_;refine zk 2 U (WP.block (WP.loop (zg U (zB U aK (by decide) ?_))));have I:fh (pg c_ 1) kd lk sE [M]:=by rw[hR.same ej];exact I
 refine zk 5 U (WP.block (zK 9 U (zc U (zV hT hR kD hN I hM (s.ae [1])) ?_)));rintro v h (⟨iJ,rfl,s,hd⟩|⟨w2,u2,iJ,rfl,oH,j3,s⟩)
 .skip;refine zk 12 U (zB U aG (by decide) ?_);exact zk 8 U (WP.ret ⟨aa,_,U,.inl ⟨iJ,U,s.del 1,hd⟩⟩)
 refine zk 12 U (zC U aG (U) (zk 6 U (zo U (aD U U U (bw aP (s.aC (k:=0) U (bh _ _)))) ?_)));rw[hM];refine zk 2 U (WP.block ?_);refine WE hT (s.buf (k:=0) U).view hM (by omega) jG h0 h1 (lo/8) 0 _ _ (by omega) ⟨U,U,U,U,U,aa⟩ (λE' l2 l3=>⟨aa,_,AG l2 l3,.inr ⟨iJ,U,oH,hR.tr ej j3,?_⟩⟩);exact((s.ae [2]).del 3 |>.del 2).del 1
theorem TN (hT:W told)(hR:Jk told N lv dd sm rv A pg)(cn:lv ε)(hN:2<=N)(I:fU n R M (pg ε))(h1:∀j,j<n->bt M j=true)(s:Sat h (A ε::S)):
  Call ⟨Tryz.prog,told⟩ 162 [rv] h λv h'=>(∃ah,v=.aX [.int .i64 0,.int .i64 9]/\Sat h' (A ah::S)/\dd ah)\/∃ah,v=.aX [.int .i64 (-1),.int .i64 0]/\lv ah/\sm ε ah/\Sat h' (A ah::S):=by
 obtain⟨ex,rS⟩:=I.head;obtain⟨kd,lk,sE,vg⟩:=I.marks;have hM:=I.ml;have qu:=I.n2;have wJ:=I.n1;refine Call.of_wp (hT.free _ U) Tryz.func162 U U (zK 8 U (zc U (GD hT hR cn (by omega) rS I.rl s) ?_));rintro v h (⟨c_,rfl,s,hd⟩|⟨u,c_,rfl,kD,ej,s⟩)
 .skip;refine zk 12 U (zB U aG (by decide) ?_);exact zk 8 U (WP.ret ⟨aa,_,U,.inl ⟨c_,U,s,hd⟩⟩)
 refine zk 12 U (zC U aG (U) (zk 7 U (zc U (Cw hT (by omega) (by omega)) ?_)));rintro v h' ⟨rfl,rfl⟩;refine zb U (by exact dV ak) ?_;refine zk 2 U (WP.block (WP.loop (zg U (zB U aK (by decide) ?_))));have vg:fh (pg c_ 1) kd lk sE [M]:=by rw[hR.same ej];exact vg
 refine zk 5 U (WP.block (zK 9 U (zc U (zV hT hR kD hN vg hM (s.ae [1])) ?_)));rintro v h (⟨iJ,rfl,s,hd⟩|⟨w2,u2,iJ,rfl,oH,j3,s⟩)
 .skip;refine zk 12 U (zB U aG (by decide) ?_);exact zk 8 U (WP.ret ⟨aa,_,U,.inl ⟨iJ,U,s.del 1,hd⟩⟩)
 refine zk 12 U (zC U aG (U) (zk 6 U (zo U (aD U U U (bw aP (s.aC (k:=0) U (bh _ _)))) ?_)));rw[hM];refine zk 2 U (WP.block ?_);refine TM hT (s.buf (k:=0) U).view hM (by omega) h1 I.hi 375 0 _ _ (by omega) ⟨U,U,U,U,U,U,U,aa⟩ (λE' hE => ?_);refine WP.has hE (zr U (zb U (by exact aL ak) ?_));refine zm U (zv (WP.loop (zg U (zh U (aq U U aK) (by decide) ?_))));exact zk 3 U (WP.exit (zK 5 U (WP.ret ⟨aa,_,U,.inr ⟨iJ,U,oH,hR.tr ej j3,((s.ae [2]).del 3 |>.del 2).del 1⟩⟩)))
theorem ab_ (hT:W told)(hR:Jk told N lv dd sm rv A pg)(cn:lv ε)(hN:2<=N)(hp:fU n R M (pg ε))(hi:i<n)(s:Sat h (A ε::S)):
  Call ⟨Tryz.prog,told⟩ 201 [rv,.int .i64 (i:Int)] h λv h'=>(∃ah,v=.aX [.bool false,.int .i64 9]/\Sat h' (A ah::S)/\dd ah)\/∃ah,v=.aX [.bool (bt M i),.int .i64 0]/\lv ah/\sm ε ah/\Sat h' (A ah::S):=by
 obtain⟨kd,lk,sE,vg⟩:=hp.marks;have hM:=hp.ml;have qu:=hp.n2;refine Call.of_wp (hT.free _ U) Tryz.func201 U U (zK 9 U (zo U (aq (r:=.int .i64 0) U U (QW (by omega))) ?_));refine zc U (zV hT hR cn hN vg hM s) ?_;rintro v h (⟨I,rfl,s,hd⟩|⟨w2,u2,I,rfl,oH,j3,s⟩)
 .skip;refine zk 12 U (zB U aG (by decide) ?_);exact zk 8 U (WP.ret ⟨aa,_,U,.inl ⟨I,U,s,hd⟩⟩)
 have hb:M[i/8]?=some (M[i/8]'(by omega)):=aF _;have qQ:M.getD (i/8) 0=M[i/8]'(by omega):=by grind
 generalize (M[i/8]'(by omega))=x at hb qQ;have hv:=(s.buf (k:=0) U).view;have hx:x<256:=hv.1 x (aJ hb);have Cx:x.testBit (i%8)=bt M i:=by rw[bt,qQ]
 obtain⟨id,off,e1,e2⟩:=eU hv hb;have xC:x/2^(i%8)<256:=Hj (Hw _ _) hx;refine zk 12 U (zC U aG (U) (zk 7 U (zb U (QX (by omega)) ?_)));refine zb U (AO (a:=i) (b:=8) (by decide) (by omega)) ?_;refine zo U (bM (r:=.ptr id off) U U e1) (zl U e2 (zm U (zb U (QX (by omega)) ?_)));refine zb U (La (a:=i) (b:=8) (by decide)) ?_;refine zb U (TI (a:=x) (k:=i%8) (by omega)) ?_;refine zb U (TJ (b:=1) xC (by decide)) ?_;refine zo U (aq (r:=.bool (bt M i)) U U (by rw[<-Cx];exact LX)) ?_;exact zk 3 U (WP.ret ⟨aa,_,U,.inr ⟨I,U,oH,j3,(s.ae [2]).del 2 |>.del 1⟩⟩)
end
section
variable {P:Int->List Nat} {n2 m:Nat} {wT qM:List (List Nat)} {jH gM:List En} {lU lV:List Nat} {cut:Ky}
theorem Nv.two (h1:Nv F P l [] (some cut) wT jH lU)(g1:F l wT)(p1:bH (P m) 204 0 l wT)(h2:Nv F P l cut none qM gM lV)(g2:F l qM)(p2:bH (P n2) 204 0 l qM)(c1:[]<cut)(c3:1<=cut.length/\cut.length<=96)(hm:m<4294967296)(hn:n2<4294967296):
  Nv F P (l+1) [] none [e_ m [],e_ n2 cut] (jH++gM) (m::(lU++n2::lV)):=by
 refine⟨[⟨[],m,jH,lU⟩,⟨cut,n2,gM,lV⟩],U,⟨by simp,λk I => ?_,λk I => ?_,λi k I h1 => ?_,λi k I h1 => ?_,λi j k k2 I kW h1 h2 => ?_⟩,by simp,by simp[cL],λi k I => ?_⟩
 .simp only[gd,jQ,mM] at I;rcases I with rfl|rfl
  .exact hm
  .exact hn
 .simp only[gd,jQ,mM] at I;rcases I with rfl|rfl
  .exact gh _
  .exact c3.2
 .obtain⟨i,rfl⟩:∃j,i=j+1:=⟨i-1,by omega⟩;cases i with
  |zero=>simp at I;subst I;exact c3.1
  |succ i=>simp at I
 .obtain⟨i,rfl⟩:∃j,i=j+1:=⟨i-1,by omega⟩;cases i with
  |zero=>simp at I;subst I;exact⟨c1,λb hb=>by cases hb⟩
  |succ i=>simp at I
 .obtain⟨i,rfl⟩:∃j,i=j+1:=⟨i-1,by omega⟩;obtain⟨j,rfl⟩:∃q,j=q+2:=⟨j-2,by omega⟩;simp at kW
 .match i,I with
  |0,I =>
   simp at I;subst I;exact⟨wT,h1,g1,p1⟩
  |1,I =>
   simp at I;subst I;exact⟨qM,h2,g2,p2⟩
  |i+2,I=>simp at I
theorem Sep.LY {fX:Ky}{eO:Option Ky}(h:Sep lo hi ks)(h1:fX<=lo)(h2:∀b,eO=some b->∃a,hi=some a/\a<=b): Sep fX eO ks :=
 { h with bd:=λi k I q=>⟨by have:=(h.bd i k I q).1;grind,λb hb=>by obtain⟨a,ha,mA⟩:=h2 b hb;have:=(h.bd i k I q).2 a ha;grind⟩ }
theorem Nv.LY : ∀ {l:Nat} {lo fX:Ky} {hi eO:Option Ky} {cs:List (List Nat)} {es:List En} {ps:List Nat},Nv F P l lo hi cs es ps->fX<=lo->(∀b,eO=some b->∃a,hi=some a/\a<=b)->Nv F P l fX eO cs es ps:=by
 intro l;induction l with
 |zero=>intro lo fX hi eO cs es ps ⟨h1,h2,h3⟩ a1 a2;exact⟨h1,{ h2 with bd:=λe he=>(h2.bd e he).trans a1 a2 },h3⟩
 |succ l ih =>
  intro lo fX hi eO cs es ps ⟨ks,h1,h2,h3,h4,h5⟩ a1 a2;refine⟨ks,h1,h2.LY a1 a2,h3,h4,λi k hk => ?_⟩;obtain⟨cs',b1,b2,b3⟩:=h5 i k hk;refine⟨cs',ih b1 ?_ λb I => ?_,b2,b3⟩
  .unfold loK;split
   .exact a1
   .exact nI _
  .unfold cT at I ⊢;cases hq:ks[i+1]? with
   |none=>rw[hq] at I;exact a2 b I
   |some k=>rw[hq] at I;exact⟨k.key,U,by rw[bD I];exact nI _⟩
end
structure jA (N:Nat)(M:List Nat)(ps:List Nat): Prop where
 nd:ps.Nodup
 my:∀p∈ps,2<=p/\p<N
 bits:∀j,j<N->bt M j=decide (j<2\/j∈ps)
section
theorem jA.low (h:jA N M ps)(hl:ps.length+2<N): ∃lo,lo<N/\bt M lo=false/\(∀j,j<lo->bt M j=true)/\2<=lo/\lo∉ps:=by
 have hex:∃lo,lo<N/\bt M lo=false:=by
  refine G7 λxh => ?_;have kL:∀j,j<N->bt M j=true:=λj hj=>by
   cases hb:bt M j with
   |true=>rfl
   |false=>exact absurd ⟨j,hj,hb⟩ xh
  have WH:∀j∈List.range N,j∈[0,1]++ps:=λj hj=>by
   have I:=kL j (List.mem_range.1 hj);rw[h.bits j (List.mem_range.1 hj)] at I;rcases rG I with q|q
   .rw[nH];left;simp only[gd,jQ,mM];omega
   .exact js _ q
  have:=Ct List.nodup_range WH;rw[List.length_range,aO] at this;simp only[aW,b6] at this;omega
 have main:∀n,(∃lo,lo<n/\lo<N/\bt M lo=false)->∃lo,lo<N/\bt M lo=false/\∀j,j<lo->bt M j=true:=by
  intro n;induction n with
  |zero=>rintro⟨lo,I,_⟩;omega
  |succ n ih =>
   rintro⟨lo,I,h2,h3⟩;by_cases q:∃lo,lo<n/\lo<N/\bt M lo=false
   .exact ih q
   .refine⟨lo,h2,h3,λj hj => ?_⟩;cases hb:bt M j with
    |true=>rfl
    |false=>exact absurd ⟨j,by omega,by omega,hb⟩ q
 obtain⟨lo,I,h2⟩:=hex;obtain⟨lo,I,h2,h3⟩:=main N ⟨lo,I,I,h2⟩;have h4:=h.bits lo I;rw[h2] at h4;have h5:=of_decide_eq_false h4.symm;exact⟨lo,I,h2,h3,by omega,λq=>h5 (.inr q)⟩
theorem jA.more (h:jA N M ps){z:Nat}(hz:z<N)(h2:2<=z)(hn:z∉ps)(hb:∀j,bt M' j=(bt M j||decide (j=z))): jA N M' (z::ps):=by
 refine⟨List.nodup_cons.2 ⟨hn,h.nd⟩,λp I => ?_,λj hj => ?_⟩
 .rcases List.mem_cons.1 I with rfl|I
  .exact⟨h2,hz⟩
  .exact h.my p I
 .rw[hb,h.bits j hj,<-Bool.decide_or];congr 1;simp only[gd,eq_iff_iff];constructor
  .rintro((q|q)|q)
   .exact .inl q
   .exact .inr (.inr q)
   .exact .inr (.inl q)
  .rintro(q|q|q)
   .exact .inl (.inl q)
   .exact .inr q
   .exact .inl (.inr q)
theorem jA.perm (h:jA N M ps){qs:List Nat}(I:ps.Perm qs): jA N M qs :=
 ⟨I.nodup_iff.1 h.nd,λp hq=>h.my p (I.mem_iff.2 hq),λj hj=>by rw[h.bits j hj];congr 1;rw[I.mem_iff]⟩
end
section
variable {v:V} {b:Nat} {bb:List Nat}
theorem rA (I:a<=b)(hb:b<=c.length): cC (og v c) (og (slR v a b) ((c.take b).drop a)):=λ_ _ h=>ViewM.slice h I hb
theorem LZ (hc:cs[i]?=some c)(hu:P.underlying t=some (.slice e))(he:bq P e=some 1)(ha:isAggT P e=some false)(s:Sat h (pt x (.cells 4 (vf n l bv cv) false)::.b8 bv bb::roS 1 cv us::dy us cs::S)):
  ∃u id off,indexAddrV P t cv (.int .i64 (i:Int))=some (.ptr id off)/\loadV P h e (.ptr id off)=some u/\us[i]?=some u/\Sat h (pt x (.cells 4 (vf n l bv cv) false)::.b8 bv bb::roS 1 cv us::dy us cs::og u c::S):=by
 obtain⟨u,I,s1⟩:=TB (s.ae [3]) hc;have hl:=ko (s.ae [3]);have hi:=(List.getElem?_eq_some_iff.1 hc).1;obtain⟨id,off,e1,e2⟩:=Wy (P:=P) (t:=t) (e:=e) (i:=i) (s.jo (j:=2) U (cU _ _ _)) (by omega) (by decide) hu he;refine⟨u,id,off,e1,?_,I,?_⟩
 .have:=e2 0 u e (by rw[cH,ic,ay (by decide),fq,eF];exact I) ha
  rwa [eF] at this
 .have s1:=s1.ae [2,2,2,1,0];exact s1
theorem gT (hu:P.underlying t=some (.slice e))(s:Sat h (pt x (.cells 4 (vf n l bv cv) false)::.b8 bv bb::roS 1 cv us::dy us cs::S)): lenV P h t cv=some (.int .i64 (cs.length:Int)) :=
 zT (s.jo (j:=2) U (cU _ _ _)) (by rw[ko (s.ae [3]),cH]) (by decide) hu
end
section
variable {told:cu} {v vv:V} {k val:List Nat}
theorem oW (hT:W told)(hc:cs[i]?=some c)(I:iQ l c)(hl:l<=64)(fN:c.length<=225)(s:Sat h (aY x n l b cs::S)):
  Call ⟨Tryz.prog,told⟩ 117 [.ptr x 0,.int .i64 (i:Int)] h λr h'=>Sat h' (og r (fE l c)::aY x n l b cs::S):=by
 obtain⟨bv,cv,us,s⟩:=aU.1 s
 obtain⟨u,id,off,e1,e2,hui,s⟩:=LZ (P:=Tryz.prog) hc aQ dP bS s
 have hv:=s.aC (k:=4) U (bp _ _)
 refine Call.of_wp (hT.free _ U) Tryz.func117 U U (zK 9 U (zY s 0 ew bP U ?_))
 by_cases h0:l=0
 .subst h0
  have I:1<=c.length/\1+c.getD 0 0<=c.length:=I
  have nh:c[0]?=some (c.getD 0 0):=by grind
  obtain⟨lS,bo,e3,e4⟩:=eU hv nh
  have pI:fE 0 c=(c.take (1+c.getD 0 0)).drop 1:=by rw[fE,ay U,l8,tv]
  generalize c.getD 0 0=z at I nh e3 e4 pI
  have hz:z<256:=hv.1 z (aJ nh)
  refine zC U cA (by simp) ?_
  refine zk 4 U ?_
  have z0:=s
  refine WP.drawn [af,af,af,af,af,af,af,af,af,af,af,af,af,af,af,af,af,af,af] U (by kernel_rfl) (by kernel_rfl) ?_
  refine zM U (zN U (zF U (cP _ _) (zL U (s.ld (k:=0) U gx U) (zM U (zO U (bM (r:=.ptr id off) U U e1) (zL U e2 (zM U (zN U (zF U (cP _ _) (zL U (s.ld (k:=0) U gx U) (zM U (zO U (bM (r:=.ptr id off) U U e1) (zL U e2 (zO U (bM (r:=.ptr lS bo) U U e3) (zL U e4 (zO U (aq (r:=.int .u8 ((1+z:Nat):Int)) U U (by rw[show((1+z:Nat):Int)=1+(z:Int) by omega];exact aL uB)) ?_))))))))))))))))
  refine zO U (bK (p:=some (.int .i64 1)) (q:=some (.int .u8 ((1+z:Nat):Int))) (m:=none) (p':=some 1) (q':=some (1+z)) (m':=none) U U U U (by rfl) (by rw[bN];rfl) U (fR hv (by omega) (by omega)).1) ?_
  refine zA U ?_
  refine aB.nil ⟨⟨aa,aa,aa,aa,aa,aa,aa,aa,aa,aa,aa,aa,aa,aa,aa,aa,aa,aa,aa,aa⟩,?_⟩
  refine WP.ret ⟨aa,_,U,?_⟩
  have s:=(s.ae [4]).dM (rA (a:=1) (b:=1+z) (by omega) (by omega))
  rw[<-pI] at s
  have s:=s.ae [1,1,1,1]
  exact((aU.2 ⟨bv,cv,us,s⟩).ae [1])
 .have I:4<=c.length:=by rw[iQ,ai h0] at I;exact I
  have pI:fE l c=(c.take c.length).drop 4:=by rw[fE,ai h0,jR]
  refine zB U cA (by simp;omega) ?_
  refine zk 6 U (zY s 0 cP gx U (zm U (zo U (bM (r:=.ptr id off) U U e1) (zl U e2 (zo U (bK (p:=some (.int .i64 4)) (q:=none) (m:=none) (p':=some 4) (q':=none) (m':=none) U U U U (by rfl) U U (iu hv I).1) ?_)))))
  refine zk 2 U (WP.ret ⟨aa,_,U,?_⟩)
  have s:=(s.ae [4]).dM (rA (a:=4) (b:=c.length) I (aH _))
  rw[<-pI] at s
  have s:=s.ae [1,1,1,1]
  exact((aU.2 ⟨bv,cv,us,s⟩).ae [1])
theorem DR (hT:W told)(hc:cs[i]?=some c)(I:iQ 0 c)(fN:c.length<=225)(s:Sat h (aY x n 0 b cs::S)):
  Call ⟨Tryz.prog,told⟩ 50 [.ptr x 0,.int .i64 (i:Int)] h λr h'=>Sat h' (og r (c.drop (1+c.getD 0 0))::aY x n 0 b cs::S):=by
 obtain⟨bv,cv,us,s⟩:=aU.1 s
 obtain⟨u,id,off,e1,e2,hui,s⟩:=LZ (P:=Tryz.prog) hc aQ dP bS s
 have hv:=s.aC (k:=4) U (bp _ _)
 have I:1<=c.length/\1+c.getD 0 0<=c.length:=I
 have nh:c[0]?=some (c.getD 0 0):=by grind
 obtain⟨lS,bo,e3,e4⟩:=eU hv nh
 have Bz:c.drop (1+c.getD 0 0)=(c.take c.length).drop (1+c.getD 0 0):=by rw[jR]
 rw[Bz]
 generalize c.getD 0 0=z at I nh e3 e4
 have hz:z<256:=hv.1 z (aJ nh)
 refine Call.of_wp (hT.free _ U) Tryz.func50 U U (zK 5 U ?_)
 have z0:=s
 refine WP.drawn [af,af,af,af,af,af,af,af,af,af,af,af,af,af,af,af,af,af,af,af] U (by kernel_rfl) (by kernel_rfl) ?_
 refine zM U (zN U (zF U (cP _ _) (zL U (s.ld (k:=0) U gx U) (zM U (zO U (bM (r:=.ptr id off) U U e1) (zL U e2 (zM U (zN U (zF U (cP _ _) (zL U (s.ld (k:=0) U gx U) (zM U (zO U (bM (r:=.ptr id off) U U e1) (zL U e2 (zO U (bM (r:=.ptr lS bo) U U e3) (zL U e4 (aB.op U U U (by simp only[isEff,b_]) (cS U (by exact kU Tryz.underlying5 b_ ak)) ?_))))))))))))))))
 refine zO U (aq (r:=.int .i64 ((1+z:Nat):Int)) U U (by rw[show((1+z:Nat):Int)=1+(z:Int) by omega];exact aL ak)) ?_
 refine zO U (bK (p:=some (.int .i64 ((1+z:Nat):Int))) (q:=none) (m:=none) (p':=some (1+z)) (q':=none) (m':=none) U U U U (by rw[bN];rfl) U U (iu hv (by omega)).1) ?_
 refine zA U ?_
 refine aB.nil ⟨⟨aa,aa,aa,aa,aa,aa,aa,aa,aa,aa,aa,aa,aa,aa,aa,aa,aa,aa,aa,aa,aa⟩,?_⟩
 refine WP.ret ⟨aa,_,U,?_⟩
 have s:=(s.ae [4]).dM (rA (a:=1+z) (b:=c.length) (by omega) (aH _))
 have s:=s.ae [1,1,1,1]
 exact((aU.2 ⟨bv,cv,us,s⟩).ae [1])
theorem DS (hT:W told){k:Ky}{m:Nat}(hc:cs[i]?=some (e_ m k))(hm:m<4294967296)(s:Sat h (aY x n l b cs::S)):
  Call ⟨Tryz.prog,told⟩ 78 [.ptr x 0,.int .i64 (i:Int)] h λr h'=>r=.int .i64 (m:Int)/\Sat h' (aY x n l b cs::S):=by
 obtain⟨bv,cv,us,s⟩:=aU.1 s;obtain⟨u,id,off,e1,e2,hui,s⟩:=LZ (P:=Tryz.prog) hc aQ dP bS s;have hv:=s.aC (k:=4) U (bp _ _);have I:=cQ 4 m;have hl:4<=(e_ m k).length:=by rw[e_,aO,I];omega
 have ht:((e_ m k).take 4).drop 0=le 4 m:=by rw[ga,e_,fY I]
 refine Call.of_wp (hT.free _ U) Tryz.func78 U U (zK 8 U (zY s 0 cP gx U (zm U (zo U (bM (r:=.ptr id off) U U e1) (zl U e2 (zo U (bK (p:=none) (q:=some (.int .i64 4)) (m:=none) (p':=none) (q':=some 4) (m':=none) U U U U U (by rfl) U (VF hv hl).1) ?_))))));have s:=(s.ae [4]).dM (rA (a:=0) (b:=4) (gh _) hl);rw[ht] at s;refine zc U (HZ hT s (k:=0) U (bp _ _) (by rw[I];decide)) ?_;rintro r h' ⟨rfl,rfl⟩;rw[Cp,vI (by simpa using hm)];refine zo U (cS U (by exact kU eZ b_ ak)) ?_;refine zk 2 U (WP.ret ⟨aa,_,U,?_⟩);have s:=s.ae [1,1,1,1];exact⟨U,(aU.2 ⟨bv,cv,us,s⟩).del 1⟩
theorem aag (hT:W told)(s:Sat h (X::Y::S))(I:cC X (cK kv k))(hY:cC Y (cK vv val))(hk:k.length<=200)(hv:val.length<=200):
  Call ⟨Tryz.prog,told⟩ 47 [kv,vv] h λr h'=>Sat h' (bf r (eB (k,val))::X::Y::S):=by
 refine Call.of_wp (hT.free _ U) Tryz.func47 U U (zK 7 U (zo U (aD U U U (bw aP (s.aC (k:=0) U I))) (zo U (aq (r:=.int .i64 ((1+k.length:Nat):Int)) U U (by rw[show((1+k.length:Nat):Int)=1+(k.length:Int) by omega];exact aL ak)) ?_)));refine zm U (zo U (aD U U U (bw aP (s.aC (k:=1) U hY))) (zo U (aq (r:=.int .i64 ((1+k.length+val.length:Nat):Int)) U U (by rw[show((1+k.length+val.length:Nat):Int)=((1+k.length:Nat):Int)+(val.length:Int) by omega];exact aL ak)) ?_));refine au.any U U U (OpR.uD U s U U U U (by omega)) ?_;intro w0 h s;refine zm U (zo U (aD U U U (bw aP (s.aC (k:=1) U I))) (zo U (cS U (by exact kU b_ Tryz.underlying5 uB)) ?_));refine au.any U U U (OpR.J1 U s U U U (by omega)) ?_;intro w1 h s;refine au.any U U U (OpR.qB U (s.ae [1,0]) (bh _ _) U U U U (by simp)) ?_;intro w2 h s;have s:=(s.del 1).ae [0,0,0];refine zm U (au.any U U U (OpR.qB U s I U U U U (by simp;omega)) ?_);intro w3 h s;refine zm U (au.any U U U (OpR.qB U (s.ae [0,1]) hY U U U U (by simp;omega)) ?_);intro w4 h s;refine zk 2 U (WP.ret ⟨aa,_,U,?_⟩);have s:=s.ae [0,1,0];exact s
theorem zW (I:W told){m:Nat}(hm:m<4294967296)(s:Sat h (X::S))(hX:cC X (cK kv k))(hk:k.length<=200):
  Call ⟨Tryz.prog,told⟩ 132 [.int .i64 (m:Int),kv] h λr h'=>Sat h' (bf r (e_ m k)::X::S):=by
 have s:=s.F3;refine Call.of_wp (I.free _ U) Tryz.func132 U U (zK 7 U (zo U (cS U (by exact kU b_ eZ iO)) ?_));refine zc U (Ge (l:=[]) (z:=4) (n:=m) I s (by decide) (by rw[b6];omega)) ?_;intro bv h s;rw[dL] at s;have h4:=cQ 4 m;refine zm U (au.any U U U (OpR.qB U s hX U U U U (by omega)) ?_);intro w h s;exact zk 2 U (WP.ret ⟨aa,_,U,s⟩)
end
def SA (a p q r:Nat)(op:V)(data:List Nat)(aR:Nat)(ε:bA): aE:=star [gH a p q r op data aR,gG r p q ε.1,dH q p ε.2.1,bZ p ε.2.2]
def GA (g a p q r:Nat)(data:List Nat)(aR:Nat)(now:List (Int×List Nat))(ε:bA): aE:=star [iy g a now false,gH a p q r (.ptr g 0) data aR,gG r p q ε.1,dH q p ε.2.1,bZ p ε.2.2]
def pgG (now:List (Int×List Nat))(ε:bA)(n:Int): List Nat:=match lookL n now with
 |some b=>b
 |none=>pgA ε n
theorem gN (h:Sm N ε ah): pgG now ah=pgG now ε:=by
 funext n;unfold pgG;rw[h.1]
theorem eY {i n:Int}: pgG (cD i b now) ε n=if i=n then b else pgG now ε n:=by
 grind[pgG,mU]
section
variable {told:cu} {p:Nat} {v x op:V} {l:List Nat} {sm:bA->bA->Prop}
theorem WJ (hT:W told)(hB:B<=2000): mE told N B (.iface 24 (.ptr a 0)) (SA a p q r op data aR) pgA:=by
 refine⟨⟨_,_,_,U,Z2,λ{h S ε n} I h0 h1 s => ?_⟩,λhs=>hs.1⟩;have AH:=I.cW;have hwt:=tW (ε:=ε);have s:=cY.1 s;refine(EJ hT (n:=n) s I.ok.ok I.ok.pins (by omega)).mono ?_;rintro v h ⟨e,b,ah,hr,hs⟩;obtain⟨k1,k2,k3,k4⟩:=hr.ec I.ec I.ok.pins;obtain⟨rfl,rfl⟩:=k3 h0 h1;rcases hs with⟨he,_⟩|⟨_,u,rfl,s⟩
 .omega
 .have s2:Sat h (SA a p q r op data aR ah::bf u (pgA ε n)::S):=cY.2 (s.ae [1,1,1,1,0]);exact⟨u,ah,U,I.rd hr,⟨k2,λP hP hv=>hP.rd hr I.ec hv,hr.cW⟩,s2.ae [1]⟩
theorem ES (hT:W told)(hB:B<=2000)(hw:NW N now): mE told N B (.iface 32 (.ptr g 0)) (GA g a p q r data aR now) (pgG now):=by
 refine⟨⟨_,_,_,U,OB,λ{h S ε n} I h0 h1 s => ?_⟩,λhs m=>by rw[gN hs]⟩;have AH:=I.cW;have hwt:=tW (ε:=ε);have s:=cY.1 s;refine(Ld hT (n:=n) s I.ok (by omega) (λe he=>jy (hw.good e he).1)).mono ?_;rintro v h ⟨e,b,ah,hr,hs⟩;obtain⟨k1,k2,k3,k4⟩:=hr.ec I.ec I.ok.pins;obtain⟨rfl,hb⟩:=k3 h0 h1;have hb:b=pgG now ε n:=hb;subst hb;rcases hs with⟨he,_⟩|⟨_,u,rfl,s⟩
 .omega
 .have s2:Sat h (GA g a p q r data aR now ah::bf u (pgG now ε n)::S):=cY.2 (s.ae [1,1,1,1,1,0]);exact⟨u,ah,U,I.Cn hr,⟨k2,λP hP hv=>hP.Cn hr I.ec hv,hr.cW⟩,s2.ae [1]⟩
theorem QY (hT:W told)(hB:B<=2000)(I:EI N B ε)(hw:NW N now)(hi:i<N)(s:Sat h (GA g a p q r data aR now ε::X::S))(hX:cC X (cK x b))(hp:fh b kd link extra cs):
  Call ⟨Tryz.prog,told⟩ 55 [.ptr g 0,.int .i64 (i:Int),x] h λv h'=>∃ah,v=.int .i64 0/\EI N B ah/\Sm N ε ah/\NW N (cD (i:Int) b now)/\Sat h' (GA g a p q r data aR (cD (i:Int) b now) ah::X::S):=by
 have AH:=I.cW;have hwt:=tW (ε:=ε);have hlen:=hp.len;have hb:=(s.aC (k:=1) U hX).1;have s:=cY.1 s;refine(Ja hT (n:=(i:Int)) s hX (by omega) I.ok (by omega) (λe he=>jy (hw.good e he).1)).mono ?_;rintro v h ⟨e,aN,ah,hr,rfl,s⟩;obtain⟨k1,k2,k3,k4,k5⟩:=hr.ec I.ec I.ok.pins;obtain⟨rfl,rfl⟩:=k5 (by omega) (by omega) hp.good;exact⟨ah,U,I.Lk hr,⟨k2,λP hP hv=>hP.Lk hr I.ec hv,hr.cW⟩,hw.put (by omega) (by omega) hp.good hb,cY.2 s⟩
structure Mo (told:cu)(N:Nat)(lv dd:bA->Prop)(sm:bA->bA->Prop): Prop where
 rf:∀a:bA,sm a a
 tr:∀ {a b c:bA},sm a b->sm b c->sm a c
 pg:∀ {a b:bA},sm a b->∀m,pgA b m=pgA a m
 gr:∀ {g a p q r aR:Nat} {data:List Nat} {now:List (Int×List Nat)},NW N now->Jk told N lv dd sm (.iface 32 (.ptr g 0)) (GA g a p q r data aR now) (pgG now)
 gw:∀ {h:H} {S:List aE} {X:aE} {g a p q r aR i kd link extra:Nat} {data b:List Nat} {now:List (Int×List Nat)} {x:V} {cs:List (List Nat)} {ε:bA},lv ε->NW N now->i<N->Sat h (GA g a p q r data aR now ε::X::S)->cC X (cK x b)->fh b kd link extra cs ->
  Call ⟨Tryz.prog,told⟩ 55 [.ptr g 0,.int .i64 (i:Int),x] h λv h'=>(∃ah,v=.int .i64 9/\Sat h' (GA g a p q r data aR now ah::X::S)/\dd ah)\/∃ah,v=.int .i64 0/\lv ah/\sm ε ah/\NW N (cD (i:Int) b now)/\Sat h' (GA g a p q r data aR (cD (i:Int) b now) ah::X::S)
 dr:∀ {h:H} {S:List aE} {g a p q r aR:Nat} {data:List Nat} {now:List (Int×List Nat)} {ε:bA} {n:Int},dd ε->NW N now->Sat h (GA g a p q r data aR now ε::S) ->
  Call ⟨Tryz.prog,told⟩ 255 [.ptr g 0,.int .i64 n] h λv h'=>∃(w:V) (e:Int) (ah:bA),v=.aX [w,.int .i64 e]/\dd ah/\Sat h' (GA g a p q r data aR now ah::S)
theorem Mo.live (hT:W told)(hB:B<=2000): Mo told N (EI N B) noD (Sm N) :=
 ⟨Sm.refl N,Sm.trans,λh=>h.1,λhw=>(ES hT hB hw).m,λI hw hi s hX hp=>(QY hT hB I hw hi s hX hp).mono λ_ _ k=>.inr k,λhd=>hd.elim⟩
theorem Mo.pgG (I:Mo told N lv dd sm)(h:sm ε ah): Am.pgG now ah=Am.pgG now ε:=by
 funext n;unfold Am.pgG;rw[I.pg h]
def YE (N g a p q r:Nat)(data:List Nat)(aR:Nat)(dd:bA->Prop)(S:List aE)(h:H): Prop:=∃(ε:bA) (now:List (Int×List Nat)),NW N now/\Sat h (GA g a p q r data aR now ε::S)/\dd ε
theorem fU.put {P:Int->List Nat}(h:fU N R M P)(I:P' 0=P 0)(h1:∃kd lk ex,fh (P' 1) kd lk ex [M'])(hl:M'.length=375)(ho:∀j,j<2->bt M' j=true)(hh:∀j,N<=j->bt M' j=false): fU N R M' P' :=
 ⟨by rw[I];exact h.head,h.rl,h1,hl,h.n1,h.n2,ho,hh⟩
theorem gz {i:Int}: ∀ {now:List (Int×List Nat)},(cD i b now).length<=now.length+1:=by
 intro now;induction now<;>grind[cD]
theorem TO (hT:W told)(hM:Mo told N lv dd sm)(cn:lv ε)(hw:NW N now)(hp:fU N R M (pgG now ε))(hi:i<N)(fH:2<=i){bl:Bool}(s:Sat h (GA g a p q r data aR now ε::S)):
  Call ⟨Tryz.prog,told⟩ 168 [.ptr g 0,.int .i64 (i:Int),.bool bl] h λv h'=>(v=.int .i64 9/\YE N g a p q r data aR dd S h')\/∃ah aN,v=.int .i64 0/\lv ah/\sm ε ah/\NW N aN/\aN.length<=now.length+1/\fU N R (if bl then GF M i else Jm M i) (pgG aN ah)/\(∀m,m≠1->pgG aN ah m=pgG now ε m) /\
   Sat h' (GA g a p q r data aR aN ah::S):=by
 obtain⟨kd,lk,sE,vg⟩:=hp.marks;have hMl:=hp.ml;have qu:=hp.n2;have hi8:i/8<M.length:=by omega
 have hb:M[i/8]?=some (M[i/8]'(by omega)):=aF _;have qQ:M.getD (i/8) 0=M[i/8]'(by omega):=by grind
 generalize (M[i/8]'(by omega))=z at hb qQ
 -- what is so behind it
 have fin:∀ {ah:bA} {b':List Nat} {M':List Nat},sm ε ah->fh b' kd lk sE [M']->M'.length=375->(∀j,bt M' j=if j=i then bl else bt M j)->fU N R M' (pgG (cD 1 b' now) ah)/\(∀m,m≠1->pgG (cD 1 b' now) ah m=pgG now ε m):=λ{ah b' M'} hs I hl Cx =>
  ⟨hp.put (by rw[eY,ai (by decide),hM.pgG hs]) ⟨_,_,_,by rw[eY,ay U];exact I⟩ hl (λj hj=>by rw[Cx,ai (by omega)];exact hp.own j hj) (λj hj=>by rw[Cx,ai (by omega)];exact hp.hi j hj),
   λm hm=>by rw[eY,ai (by omega),hM.pgG hs]⟩
 refine Call.of_wp (hT.free _ U) Tryz.func168 U U (zK 7 U (zo U (oz U (mki_of j9 U)) (zm U (zo U (aq (r:=.int .i64 0) U U (QW (by omega))) ?_))));refine zc U (zV hT (hM.gr hw) cn (by omega) vg hMl s) ?_;rintro v h (⟨iJ,rfl,s,hd⟩|⟨w2,u2,iJ,rfl,oH,j3,s⟩)
 .skip;refine zk 12 U (zB U aG (by decide) ?_);exact zk 7 U (WP.ret ⟨aa,_,U,.inl ⟨U,iJ,now,hw,s,hd⟩⟩)
 have hv:=(s.buf (k:=0) U).view;have hz:z<256:=hv.1 z (aJ hb);have h2k:2^(i%8)<256:=yB (a:=2) (n:=8) (by decide) (by omega);obtain⟨id,off,e1,e2⟩:=eU hv hb;refine zk 12 U (zC U aG (U) (zk 6 U (zb U (QX (by omega)) ?_)));refine zb U (La (a:=i) (b:=8) (by decide)) ?_;refine zb U (ab6 (k:=i%8) (by omega)) ?_;refine zk 6 U (zb U (QX (by omega)) ?_);refine zb U (AO (a:=i) (b:=8) (by decide) (by omega)) ?_;refine zk 6 U ?_;cases bl with
 |true =>
  obtain⟨tq,qD,e3,h4,e4,s2⟩:=oU s (i:=i/8) (b:=Nat.lor z (2^(i%8))) (by omega) (TH hz (by omega));have ee:V.ptr id off=V.ptr tq qD:=by grind
  rw[<-ee] at e4;refine zK 4 U (zo U (bM (r:=.ptr id off) U U e1) (zl U e2 (zm U (zb U (adK hz (by omega)) ?_))));refine zo U (bM (r:=.ptr id off) U U e1) (zS U (⟨h4,e4,s2⟩) ?_);rintro h s;rw[<-qQ] at s;have s:Sat h (bf u2 (GF M i)::_):=s;refine zk 6 U (zc U (OI (i:=0) (c:=M) hT (s.ae [1,0]) (bh _ _) (bh _ _) vg U OV) ?_);rintro v h ⟨w3,b',rfl,I,s⟩;refine zk 9 U (zC U aG (U) (zk 7 U (zo U (aq (r:=.int .i64 0) U U (QW (by omega))) ?_)));refine zb U (by exact aL ak) ?_;refine zm U (zc U (hM.gw (i:=1) oH hw (by omega) (s.ae [3,0]) (bh _ _) I) ?_);rintro v h (⟨kI,rfl,s,hd⟩|⟨kI,rfl,vh,qy,zX,s⟩)
  .skip;exact zk 2 U (WP.ret ⟨aa,_,U,.inl ⟨U,kI,now,hw,((s.ae [0]).del 3 |>.del 2).del 1,hd⟩⟩)
  refine zk 2 U (WP.ret ⟨aa,_,U,?_⟩);obtain⟨f1,f2⟩:=fin (hM.tr j3 qy) I (by rw[OV];exact hMl) (λj=>YC hi8);exact .inr ⟨kI,_,U,vh,hM.tr j3 qy,zX,gz,f1,f2,((s.ae [0]).del 3 |>.del 2).del 1⟩
 |false =>
  obtain⟨tq,qD,e3,h4,e4,s2⟩:=oU s (i:=i/8) (b:=Nat.land z (255-2^(i%8))) (by omega) (Ik hz);have ee:V.ptr id off=V.ptr tq qD:=by grind
  rw[<-ee] at e4;refine zK 4 U (zo U (bM (r:=.ptr id off) U U e1) (zl U e2 (zm U (zb U (TK hz h2k) (zo U (bM (r:=.ptr id off) U U e1) (zS U (⟨h4,e4,s2⟩) ?_))))));rintro h s;rw[<-qQ] at s;have s:Sat h (bf u2 (Jm M i)::_):=s;refine zk 6 U (zc U (OI (i:=0) (c:=M) hT (s.ae [1,0]) (bh _ _) (bh _ _) vg U OW) ?_);rintro v h ⟨w3,b',rfl,I,s⟩;refine zk 9 U (zC U aG (U) (zk 7 U (zo U (aq (r:=.int .i64 0) U U (QW (by omega))) ?_)));refine zb U (by exact aL ak) ?_;refine zm U (zc U (hM.gw (i:=1) oH hw (by omega) (s.ae [3,0]) (bh _ _) I) ?_);rintro v h (⟨kI,rfl,s,hd⟩|⟨kI,rfl,vh,qy,zX,s⟩)
  .skip;exact zk 2 U (WP.ret ⟨aa,_,U,.inl ⟨U,kI,now,hw,((s.ae [0]).del 3 |>.del 2).del 1,hd⟩⟩)
  refine zk 2 U (WP.ret ⟨aa,_,U,?_⟩);obtain⟨f1,f2⟩:=fin (hM.tr j3 qy) I (by rw[OW];exact hMl) (λj=>YD hi8);exact .inr ⟨kI,_,U,vh,hM.tr j3 qy,zX,gz,f1,f2,((s.ae [0]).del 3 |>.del 2).del 1⟩
theorem aah (hT:W told)(hM:Mo told N lv dd sm)(cn:lv ε)(hw:NW N now)(hp:fU N R M (pgG now ε)){lo:Nat}(jG:lo<N)(h0:bt M lo=false)(h1:∀j,j<lo->bt M j=true)(s:Sat h (GA g a p q r data aR now ε::S)):
  Call ⟨Tryz.prog,told⟩ 100 [.ptr g 0] h λv h'=>(v=.aX [.int .i64 0,.int .i64 9]/\YE N g a p q r data aR dd S h')\/∃ah aN,v=.aX [.int .i64 (lo:Int),.int .i64 0]/\lv ah/\sm ε ah/\NW N aN/\aN.length<=now.length+2/\fU N R (GF M lo) (pgG aN ah)/\(∀m,m≠1->m≠(lo:Int)->pgG aN ah m=pgG now ε m)/\fh (pgG aN ah lo) 0 0 0 []/\pgG aN ah lo=yl 0 /\
   Sat h' (GA g a p q r data aR aN ah::S):=by
 have wJ:=hp.n1;have h2:2<=lo:=by
  rcases tI lo 2 with hq|hq
  .rw[hp.own lo hq] at h0;cases h0
  .exact hq
 refine Call.of_wp (hT.free _ U) Tryz.func100 U U (zK 8 U (zo U (oz U (mki_of j9 U)) (zc U (WG hT (hM.gr hw) cn (by omega) hp jG h0 h1 s) ?_)));rintro v h (⟨c_,rfl,s,hd⟩|⟨c_,rfl,kD,ej,s⟩)
 .skip;refine zk 7 U (WP.block (zK 3 U (zB U aG (by decide) ?_)));exact zk 9 U (WP.ret ⟨aa,_,U,.inl ⟨U,c_,now,hw,s,hd⟩⟩)
 have vg:fU N R M (pgG now c_):=by rw[hM.pgG ej];exact hp
 refine zk 7 U (WP.block (zK 3 U (zC U aG (U) (zk 6 U (zC U aK (by simp) ?_)))));refine za U (zv (zj U (WP.skip (zw (zg U (zk 2 U (zc U (TO (bl:=true) hT hM kD hw vg jG h2 s) ?_)))))));rintro v h (⟨rfl,hd⟩|⟨iJ,mG,rfl,oH,j3,YF,iL,I,zE,s⟩)
 .skip;refine zk 5 U (zB U aG (by decide) ?_);exact zk 8 U (WP.ret ⟨aa,_,U,.inl ⟨U,hd⟩⟩)
 refine za U (zv (zg U (zm U (zh U (aq U U aG) (U) (zv (zj U (WP.skip (zg U (zc U (Je (kd:=0) hT s (by decide)) ?_)))))))));rintro v h ⟨u,rfl,s⟩;have qt:fh (yl 0) 0 0 0 []:=fh.new (k:=0);generalize hbn:yl 0=b' at s qt;refine zk 12 U (zc U (hM.gw (i:=lo) oH YF jG (s.ae [1,0]) (bh _ _) qt) ?_);rintro v h (⟨kI,rfl,s,hd⟩|⟨kI,rfl,vh,qy,zX,s⟩)
 .skip;refine zk 5 U (zB U aG (by decide) ?_);exact zk 8 U (WP.ret ⟨aa,_,U,.inl ⟨U,kI,mG,YF,s.del 1,hd⟩⟩)
 refine zk 5 U (zC U aG (U) (zk 9 U (WP.ret ⟨aa,_,U,?_⟩)));have I:fU N R (GF M lo) (pgG mG iJ):=I;refine .inr ⟨kI,_,U,vh,hM.tr (hM.tr ej j3) qy,zX,cN gz (by omega),I.put (by rw[eY,ai (by omega),hM.pgG qy]) ?_ I.ml I.own I.hi,λm mB qG=>by rw[eY,ai (by omega),hM.pgG qy,zE m mB,hM.pgG ej],by grind[eY],by rw[eY,ay U],s.del 1⟩;rw[eY,ai (by omega),hM.pgG qy];exact I.marks
theorem TP (hT:W told)(hB:B<=2000)(I:EI N B ε)(hw:NW N now)(hp:fU N R M (pgG now ε)){lo:Nat}(jG:lo<N)(h0:bt M lo=false)(h1:∀j,j<lo->bt M j=true)(s:Sat h (GA g a p q r data aR now ε::S)):
  Call ⟨Tryz.prog,told⟩ 100 [.ptr g 0] h λv h'=>∃ah aN,v=.aX [.int .i64 (lo:Int),.int .i64 0]/\EI N B ah/\Sm N ε ah/\NW N aN/\aN.length<=now.length+2/\fU N R (GF M lo) (pgG aN ah)/\(∀m,m≠1->m≠(lo:Int)->pgG aN ah m=pgG now ε m)/\fh (pgG aN ah lo) 0 0 0 []/\pgG aN ah lo=yl 0 /\
   Sat h' (GA g a p q r data aR aN ah::S) :=
 (aah hT (Mo.live hT hB) I hw hp jG h0 h1 s).mono λ_ _ k=>k.resolve_left λ⟨_,_,_,_,_,q⟩=>q
theorem WK (hT:W told)(hM:Mo told N lv dd sm)(cn:lv ε)(hw:NW N now)(hp:fU N R M (pgG now ε))(h1:∀j,j<N->bt M j=true)(s:Sat h (GA g a p q r data aR now ε::S)):
  Call ⟨Tryz.prog,told⟩ 100 [.ptr g 0] h λv h'=>(v=.aX [.int .i64 0,.int .i64 9]/\YE N g a p q r data aR dd S h')\/∃ah,v=.aX [.int .i64 0,.int .i64 7]/\lv ah/\sm ε ah/\Sat h' (GA g a p q r data aR now ah::S):=by
 have wJ:=hp.n1;refine Call.of_wp (hT.free _ U) Tryz.func100 U U (zK 8 U (zo U (oz U (mki_of j9 U)) (zc U (TN hT (hM.gr hw) cn (by omega) hp h1 s) ?_)));rintro v h (⟨c_,rfl,s,hd⟩|⟨c_,rfl,I,ej,s⟩)
 .skip;refine zk 7 U (WP.block (zK 3 U (zB U aG (by decide) ?_)));exact zk 9 U (WP.ret ⟨aa,_,U,.inl ⟨U,c_,now,hw,s,hd⟩⟩)
 refine zk 7 U (WP.block (zK 3 U (zC U aG (U) (zk 6 U (zB U aK (by decide) ?_)))));exact zk 8 U (WP.ret ⟨aa,_,U,.inr ⟨c_,U,I,ej,s⟩⟩)
theorem QZ (hT:W told)(hB:B<=2000)(I:EI N B ε)(hw:NW N now)(hp:fU N R M (pgG now ε))(h1:∀j,j<N->bt M j=true)(s:Sat h (GA g a p q r data aR now ε::S)):
  Call ⟨Tryz.prog,told⟩ 100 [.ptr g 0] h λv h'=>∃ah,v=.aX [.int .i64 0,.int .i64 7]/\EI N B ah/\Sm N ε ah/\Sat h' (GA g a p q r data aR now ah::S) :=
 (WK hT (Mo.live hT hB) I hw hp h1 s).mono λ_ _ k=>k.resolve_left λ⟨_,_,_,_,_,q⟩=>q
theorem aai (hT:W told)(hM:Mo told N lv dd sm)(cn:lv ε)(hw:NW N now)(hp:fU N R M (pgG now ε)){i:Int}(s:Sat h (GA g a p q r data aR now ε::S)):
  Call ⟨Tryz.prog,told⟩ 155 [.ptr g 0,.int .i64 i] h λv h'=>(v=.int .i64 9/\YE N g a p q r data aR dd S h')\/∃ah aN,lv ah/\sm ε ah/\NW N aN/\aN.length<=now.length+1/\Sat h' (GA g a p q r data aR aN ah::S) /\
   ((¬(2<=i/\i<N/\bt M i.toNat=true)/\v=.int .i64 18/\aN=now)\/(2<=i/\i<N/\bt M i.toNat=true/\v=.int .i64 0/\fU N R (Jm M i.toNat) (pgG aN ah)/\∀m,m≠1->pgG aN ah m=pgG now ε m)):=by
 obtain⟨ex,rS⟩:=hp.head;have wJ:=hp.n1;have qu:=hp.n2;refine Call.of_wp (hT.free _ U) Tryz.func155 U U (zK 7 U (zo U (oz U (mki_of j9 U)) (zc U (GD hT (hM.gr hw) cn (by omega) rS hp.rl s) ?_)));rintro v h (⟨c_,rfl,s,hd⟩|⟨u,c_,rfl,kD,ej,s⟩)
 .skip;refine zk 9 U (WP.block (zK 3 U (zB U aG (by decide) ?_)));exact zk 8 U (WP.ret ⟨aa,_,U,.inl ⟨U,c_,now,hw,s,hd⟩⟩)
 have vg:fU N R M (pgG now c_):=by rw[hM.pgG ej];exact hp
 refine zk 9 U (WP.block (zK 3 U (zC U aG (U) (zk 7 U (zc U (Cw hT (by omega) (by omega)) ?_)))));rintro v h' ⟨rfl,rfl⟩;by_cases jG:i<2
 .skip;refine zB U aK (by grind) ?_;exact zk 12 U (WP.ret ⟨aa,_,U,.inr ⟨c_,now,kD,ej,hw,rN _,s.drop,.inl ⟨by omega,U,U⟩⟩⟩)
 .skip;refine zC U aK (by grind) ?_;refine zk 3 U ?_;by_cases GH:(N:Int)<=i
  .skip;refine zB U j6 (by grind) ?_;exact zk 8 U (WP.ret ⟨aa,_,U,.inr ⟨c_,now,kD,ej,hw,rN _,s.drop,.inl ⟨by omega,U,U⟩⟩⟩)
  .skip;refine zC U j6 (by grind) ?_;obtain⟨k,rfl⟩:∃k:Nat,i=k:=⟨i.toNat,by omega⟩;refine zk 2 U (zv (zj U (WP.skip (zg U (zm U (zo U (oz U (mki_of j9 U)) (zm U (zc U (ab_ (i:=k) hT (hM.gr hw) kD (by omega) vg (by omega) (s.ae [1])) ?_))))))));rintro v h (⟨iJ,rfl,s,hd⟩|⟨iJ,rfl,oH,j3,s⟩)
   .skip;refine zk 7 U (WP.block (zK 3 U (zB U aG (by decide) ?_)));exact zk 8 U (WP.ret ⟨aa,_,U,.inl ⟨U,iJ,now,hw,s.del 1,hd⟩⟩)
   have A7:fU N R M (pgG now iJ):=by rw[hM.pgG j3];exact vg
   refine zk 7 U (WP.block (zK 3 U (zC U aG (U) (zk 6 U (zo U (eo U U) (zk 2 U ?_))))));cases hb:bt M k with
   |false =>
    exact zK 5 U (WP.ret ⟨aa,_,U,.inr ⟨iJ,now,oH,hM.tr ej j3,hw,rN _,s.del 1,.inl ⟨λ⟨_,_,q⟩=>(by grind),U,U⟩⟩⟩)
   |true =>
    refine zj U (WP.skip (zg U (zk 2 U (zc U (TO (bl:=false) hT hM oH hw A7 (i:=k) (by omega) (by omega) s) ?_))));rintro v h (⟨rfl,kI,I,zX,s,hd⟩|⟨kI,I,rfl,vh,qy,zX,hl3,hp3,ho3,s⟩)
    .skip;exact zk 2 U (WP.ret ⟨aa,_,U,.inl ⟨U,kI,I,zX,s.del 1,hd⟩⟩)
    refine zk 2 U (WP.ret ⟨aa,_,U,?_⟩);have hp3:fU N R (Jm M k) (pgG I kI):=hp3;exact .inr ⟨kI,I,vh,hM.tr (hM.tr ej j3) qy,zX,hl3,s.del 1,.inr ⟨by omega,by omega,by grind,U,by grind,λm hm=>by rw[ho3 m hm,hM.pgG j3,hM.pgG ej]⟩⟩
theorem TQ (hT:W told)(hB:B<=2000)(I:EI N B ε)(hw:NW N now)(hp:fU N R M (pgG now ε)){i:Int}(s:Sat h (GA g a p q r data aR now ε::S)):
  Call ⟨Tryz.prog,told⟩ 155 [.ptr g 0,.int .i64 i] h λv h'=>∃ah aN,EI N B ah/\Sm N ε ah/\NW N aN/\aN.length<=now.length+1/\Sat h' (GA g a p q r data aR aN ah::S) /\
   ((¬(2<=i/\i<N/\bt M i.toNat=true)/\v=.int .i64 18/\aN=now)\/(2<=i/\i<N/\bt M i.toNat=true/\v=.int .i64 0/\fU N R (Jm M i.toNat) (pgG aN ah)/\∀m,m≠1->pgG aN ah m=pgG now ε m)) :=
 (aai hT (Mo.live hT hB) I hw hp s).mono λ_ _ k=>k.resolve_left λ⟨_,_,_,_,_,q⟩=>q
end
def sdep : Code->Nat
 |.seq a b=>1+max (sdep a) (sdep b)
 |_=>1
def WPd (C:gO)(ax:Nat)(code:Code)(E:List (Nat×V))(h:H)(d:sF)(Q:Ex->List (Nat×V)->H->sF->Prop): Prop :=
 ∀env,mj env E->∃N0 ex I h' E' d',(∀N m,N0<=N->sdep code<=m->evTop C N m code ⟨env,ax,h⟩ d=some (ex,⟨I,ax,h'⟩,d'))/\mj I E'/\Q ex E' h' d'
section
variable {ax:Nat} {Q:Ex->List (Nat×V)->H->sF->Prop}
def noDef : List Oper->Bool
 |[]=>true
 |o::l=>(match o.op with
  |.defer _=>false
  |_=>true)&&noDef l
def noDefC : Code->Bool
 |.seq a b=>noDefC a&&noDefC b
 |.region _ ops false=>noDef ops.toList
 |_=>true
theorem TR {self:Self}{L:List Oper}: ∀ {l:List Oper} {s s':St},noDef l=true->evOps C self L l s=some s'->evOpsD C self L l s d=some (s',d):=by
 intro l;induction l<;>grind[evOps,noDef,evOpsD]
theorem evTop_of : ∀ {code:Code} {n:Nat} {s:St} {ex:Ex} {s':St} {d:sF},noDefC code=true->ev C n code s=some (ex,s')->∀N m,n<=N->sdep code<=m->evTop C N m code s d=some (ex,s',d):=by
 have leaf:∀ {code:Code} {n:Nat} {s:St} {ex:Ex} {s':St} {d:sF} {N m:Nat},(∀m,evTop C N (m+1) code s d=match ev C N code s with
   |some (ex,s')=>some (ex,s',d)
   |none=>none)->ev C n code s=some (ex,s')->n<=N->1<=m->evTop C N m code s d=some (ex,s',d):=λ{code n s ex s' d N m} he hr I hm=>by
  obtain⟨k,rfl⟩:∃k,m=k+1:=⟨m-1,by omega⟩;rw[he,iN I _ _ _ hr]
 intro code;induction code with
 |seq a b iha ihb =>
  intro n s ex s' d hn hr N m I hm;simp only[noDefC,bV] at hn;simp only[sdep] at hm;obtain⟨k,rfl⟩:∃k,m=k+1:=⟨m-1,by omega⟩;cases n with
  |zero=>cases hr
  |succ n =>
   rw[jU] at hr;simp only[evStep] at hr;cases ha:ev C n a s with
   |none=>grind
   |some r =>
    obtain⟨e1,s1⟩:=r;have h1:=iha (d:=d) hn.1 ha N k (by omega) (by omega);simp only[evTop,h1];rw[ha] at hr;cases e1 with
    |normal=>exact ihb hn.2 hr N k (by omega) (by omega)
    |exit i=>grind
    |ret=>grind
 |region id ops draw =>
  intro n s ex s' d hn hr N m I hm;cases draw with
  |true=>exact leaf (λm=>U) hr I hm
  |false =>
   obtain⟨k,rfl⟩:∃k,m=k+1:=⟨m-1,by have:1<=m:=hm;omega⟩;cases n with
   |zero=>cases hr
   |succ n =>
    rw[jU] at hr;simp only[evStep,aT] at hr;cases ho:evOps C (ev C n) ops.toList ops.toList s with
    |none=>grind
    |some s1 =>
     rw[ho] at hr;obtain⟨rfl,rfl⟩:=hr;have h2:=sD (iN (C:=C) (show n<=N by omega)) _ _ _ ho;simp only[evTop,TR (d:=d) hn h2]
 |_=>intro n s ex s' d hn hr N m I hm;exact leaf (λm=>U) hr I hm
theorem WPd.of_wp (hn:noDefC code=true)(hw:WP C ax code E h λex E' h'=>Q ex E' h' d): WPd C ax code E h d Q:=by
 intro env hE;obtain⟨N,ex,I,h',E',h1,h2,h3⟩:=hw env hE;exact⟨N,ex,I,h',E',d,λM m hM hm=>evTop_of hn h1 M m hM hm,h2,h3⟩
theorem WPd.seq {a b:Code}(hw:WPd C ax a E h d λex E' h' d'=>match ex with
  |.normal=>WPd C ax b E' h' d' Q
  |ex=>Q ex E' h' d'): WPd C ax (.seq a b) E h d Q:=by
 intro env hE;obtain⟨N,ex,I,h',E',d',h1,h2,h3⟩:=hw env hE;have one:∀M m,N<=M->sdep (.seq a b)<=m+1->evTop C M m a ⟨env,ax,h⟩ d=some (ex,⟨I,ax,h'⟩,d'):=λM m hM hm=>h1 M m hM (by simp only[sdep] at hm;omega);have out:(match ex with|.normal=>False|_=>True)->Q ex E' h' d'->∃N0 ex I h' E' d',(∀N m,N0<=N->sdep (.seq a b)<=m->evTop C N m (.seq a b) ⟨env,ax,h⟩ d=some (ex,⟨I,ax,h'⟩,d'))/\mj I E'/\Q ex E' h' d':=λhx hq=>by
  refine⟨N,ex,I,h',E',d',λM m hM hm => ?_,h2,hq⟩;obtain⟨k,rfl⟩:∃k,m=k+1:=⟨m-1,by simp only[sdep] at hm;omega⟩<;>grind[evTop]
 cases ex with
 |normal =>
  obtain⟨K,sE,Kz,IJ,E2,d2,g1,g2,g3⟩:=h3 I h2;refine⟨max N K,sE,Kz,IJ,E2,d2,λM m hM hm => ?_,g2,g3⟩;obtain⟨k,rfl⟩:∃k,m=k+1:=⟨m-1,by simp only[sdep] at hm;omega⟩<;>grind[sdep,evTop]
 |exit i=>simp_all
 |ret=>simp_all
theorem WPd.defer {ops:Array Oper}{I o2:Oper}{x1 y:Operand}{cl:Go.Call}{v:V}{first cap:List V}(hL:ops.toList=[I,o2])(g1:I.guard=none)(d1:I.dst=some k)(p1:I.op=.move x1)(hk:Nat.blt k ax=true)(hx:bE E x1=some v)
 (g2:o2.guard=none)(d2:o2.dst=none)(p2:o2.op=.defer cl)(hc:cl.callee=.value y)(hy:bE ((k,v)::E) y=some (.fn (.func g) first cap))(ha:lookArgs ((k,v)::E) cl.args.toList=some args)
 (hq:Q .normal ((k,v)::E) h ((g,first++args,cap)::d)): WPd C ax (.region id ops false) E h d Q:=by
 intro env hE;have LR:mj (env.set k (some v)) ((k,v)::E):=hE.set _ _;refine⟨0,.normal,env.set k (some v),h,(k,v)::E,(g,first++args,cap)::d,λM m _ hm => ?_,LR,hq⟩
 obtain⟨j,rfl⟩:∃j,m=j+1:=⟨m-1,by have:1<=m:=hm;omega⟩;have e1:evOpsD C (ev C M) [I,o2] [I,o2] ⟨env,ax,h⟩ d=some (⟨env.set k (some v),ax,h⟩,(g,first++args,cap)::d):=by
  have Kn:wantedV [I,o2] env I=true:=by simp[wantedV,g1]
  have he1:evOp C (ev C M) env h I=some (v,h):=by simp only[evOp,p1,cE hE hx];rfl
  have uW:St.put ⟨env,ax,h⟩ I.dst v h=some ⟨env.set k (some v),ax,h⟩:=by grind[St.put]
  rw[evOpsD];grind[evOpsD,oR,cE]
 simp only[evTop,hL,e1]
theorem toldDefer_do {f:FuncId}{R:V->H->Prop}(hf:C.P.funcs[f]?=some fn)(hb:fn.body=some code)(hl:Nat.blt fn.ntmps args.length=false)(hdp:sdep code<=1000)
 (hw:WPd C fn.ntmps code (argE args 0) h [] λex E' h' d'=>(match ex with|.exit _=>False|_=>True)/\∃I v,(∃N0,∀N,N0<=N->runDefs C N d' h'=some I)/\resLE C.P E' I fn.results.toList=some v/\R v I):
  ∃v I,(∃N0,∀N,N0<=N->toldDefer C N f args h=some (v,I))/\R v I:=by
 obtain⟨N0,ex,yc,h',E',d',h1,I,hx,h3,v,⟨N1,hr⟩,uR,hR⟩:=hw _ (NX args);refine⟨v,h3,⟨max N0 N1,λN hN => ?_⟩,hR⟩;have e1:=h1 N 1000 (by omega) hdp;have e3:resOf C.P ⟨yc,fn.ntmps,h3⟩ fn.results.toList=some v:=by
  unfold resLE at uR;cases hm:mapO (resE C.P E' h3) fn.results.toList with
  |none=>grind
  |some vs =>
   have Ea:=NV (P:=C.P) (s:=⟨yc,fn.ntmps,h3⟩) I hm;grind[resOf]
 unfold toldDefer;simp only[hf,hb,hl,aT,e1];cases ex with
 |exit i=>grind
 |normal=>grind
 |ret=>grind
theorem Ny {g:FuncId}{v:V}{h2:H}(ht:C.told g=none)(hf:C.P.funcs[g]?=some fn)(hb:fn.body=some code)(hq:quietParts code=none)(hc:iS C g args h v h2): ∃I,∀N,I<=N->runDefs C N [(g,args,[])] h=some h2:=by
 obtain⟨I,h0⟩:=hc;refine⟨I,λN hN => ?_⟩;have e:=sC (iN (C:=C) hN) h0;grind[runDefs,defCall]
end
def L0 (f:FuncId)(args:List V)(h:H)(r:V×H): Prop:=∃I,∀N,I<=N->toldDefer CB N f args h=some r
theorem Call.defer {told:cu}{f:FuncId}{R:V->H->Prop}(ht:told f=some (qR Tryz.prog f (L0 f)))(hf:Tryz.prog.funcs[f]?=some fn)(hb:fn.body.isSome=true)
 (hd:∃v I,(∃N0,∀N,N0<=N->toldDefer CB N f args h=some (v,I))/\R v I): Call ⟨Tryz.prog,told⟩ f args h R:=by
 obtain⟨v,I,⟨N0,h0⟩,hR⟩:=hd;obtain⟨r,e1,N1,h1⟩:=xD (P:=Tryz.prog) (f:=f) (mC:=L0 f) (args:=args) (h:=h) (r:=(v,I)) ⟨N0,h0⟩ (λc w uQ hw=>KC (C:=CB) Ci AA (h0 N0 (aH _)) uQ hw);have:r=(v,I):=by
  have a:=h0 (max N0 N1) (by omega);grind
 subst this;exact⟨v,I,iS.told ht hf hb e1,hR⟩
abbrev OY := List V->H->V×H->Prop
noncomputable def toldP (l:List (Nat×OY))(base:Nat->Option (List V->H->Option (V×H)))(f:Nat): Option (List V->H->Option (V×H)) :=
 match l with
 |[]=>base f
 |x::l=>cond (Nat.beq f x.1) (some (qR Tryz.prog x.1 x.2)) (toldP l base f)
theorem aaj {l:List (Nat×OY)}(h:∀x∈l,inL KY x.1=true/\x.1≠211/\x.1≠61): W (toldP l uk):=by
 induction l with
 |nil=>exact W.base
 |cons x l I =>
  have I:=I λy hy=>h y (bk _ hy);obtain⟨h1,h2,h3⟩:=h x a_;refine⟨λf hf => ?_,?_,?_⟩
  .have:f≠x.1:=λe=>by subst e;rw[h1] at hf;cases hf
   simp only[toldP,fM this,aT];exact I.free f hf
  .simp only[toldP,fM (jS h2),aT];exact I.more
  .simp only[toldP,fM (jS h3),aT];exact I.sorted
theorem WL {l : List (Nat × OY)} (h : ∀ x ∈ l, ∃ fn, Tryz.prog.funcs[x.1]? = some fn ∧ fn.body.isSome = true ∧ (fn.name == "runtime.NumGoroutine") = false) : iR ⟨Tryz.prog, toldP l uk⟩ := by
 induction l with
 | nil => exact AA
 | cons x l ih =>
  have ih := ih fun y hy => h y (bk _ hy)
  intro f g I
  simp only [toldP] at I
  by_cases h1 : f = x.1
  ·subst h1
   rw [qW rfl, ag] at I
   simp only [aA] at I
   subst I
   exact Ta (h x a_)
  ·rw [fM h1, aT] at I
   exact ih f g I
section
variable {c:Ctx} {σ:H} {w:World}
set_option maxRecDepth 100000 in
theorem TS {x y:Value}{a:List Nat}(I:∀z∈a,z<256)(hb:∀z∈b,z<256)
 (hx:(Extern.Bytes.bytesOf x).run Tryz.prog w=.ok ⟨(a.map UInt8.ofNat).toArray⟩ w)(hy:(Extern.Bytes.bytesOf y).run Tryz.prog w=.ok ⟨(b.map UInt8.ofNat).toArray⟩ w):
  Calls Tryz.prog 116 #[x,y] w λe w'=>e=.returned (.int .i64 (cmpN a b))/\w'=w:=by
 go_enter LM,Tryz.ntmps116
 go_wp2
 rw[run_callFunc_extern Tryz.func184 (by kernel_rfl) (by kernel_rfl) (by kernel_rfl) (e:=Extern.BytealgCompare.compare) (by kernel_rfl),aad I hb hx hy];simp only[Result.andThen];rw[Oper.upon_value]
 go_wp2
 go_ret
 exact⟨U,U⟩
theorem GI {x:V}{l:List Nat}(h:Rel c σ w)(hw:wf c x)(hv:View σ x l): (Extern.Bytes.bytesOf (conc c x)).run Tryz.prog w=.ok ⟨(l.map UInt8.ofNat).toArray⟩ w:=by
 have hl:=hv.1;have e:bytesOf (ofBytes l)=some l:=Gt hl;rcases hv.2 with⟨rfl|⟨a,rfl⟩,rfl⟩|⟨id,off,cap,n,cs,st,rfl,_⟩
 .simp only[conc];rfl
 .simp only[conc];rfl
 .exact(Nx (P:=Tryz.prog) h hw (by simp only[byteList,hv.rdN.2,e])).2
end
def L1 : OY:=λargs h r=>∃x y a b,args=[x,y]/\View h x a/\View h y b/\r=(.int .i64 (cmpN a b),h)
structure WB (told:cu): Prop where
 w:W told
 cmp:told 116=some (qR Tryz.prog 116 L1)
theorem Nz : ∀ {a b:List Nat},ofBytes a=ofBytes b->a=b:=by
 intro a;induction a with
 |nil=>intro b h;cases b with
  |nil=>rfl
  |cons y b=>cases h
 |cons x a I =>
  intro b h;cases b with
  |nil=>cases h
  |cons y b =>
   simp only[ofBytes,gB,List.cons.injEq,V.int.injEq,true_and] at h;rw[I h.2,Int.ofNat.inj h.1]
theorem View.uniq {x:V}{a:List Nat}(h1:View h x a)(I:View h x b): a=b:=by
 rcases h1.2 with⟨rfl|⟨z,rfl⟩,rfl⟩|⟨id,off,cap,n,cs,st,rfl,_⟩
 .rcases I.2 with⟨_,rfl⟩|⟨id,off,cap,n,cs,st,e,_⟩
  .rfl
  .cases e
 .rcases I.2 with⟨_,rfl⟩|⟨id,off,cap,n,cs,st,e,_⟩
  .rfl
  .cases e
 .have e1:=h1.rdN;have e2:=I.rdN;rw[e1.2] at e2;exact Nz (bD e2.2)
section
variable {told:cu} {a k:List Nat}
theorem qq (hT:WB told){xv:V}(hx:View h xv a)(hy:View h y c): Call ⟨Tryz.prog,told⟩ 116 [xv,y] h λr h'=>r=.int .i64 (cmpN a c)/\h'=h:=by
 obtain⟨r,h3,x2,y2,a2,c2,e1,v1,v2,rfl⟩:=xD (P:=Tryz.prog) (f:=116) (mC:=L1) (args:=[xv,y]) (h:=h) (r:=(.int .i64 (cmpN a c),h)) ⟨xv,y,a,c,U,hx,hy,U⟩ λcx w I hw=>by
  unfold kK;refine Calls.mono (TS hx.1 hy.1 (GI I (hw xv (by simp)) hx) (GI I (hw y (by simp)) hy)) ?_;rintro e w' ⟨rfl,rfl⟩;exact⟨cx,by simp only[conc],by simp only[wf],I,dB.refl cx w'⟩
 injection e1 with e1 e2;injection e2 with e2 _;subst e1 e2;rw[hx.uniq v1,hy.uniq v2];exact⟨_,_,iS.told hT.cmp LM U h3,U,U⟩
theorem kj.get {e d:En}(h:kj lo hi es)(h1:es[i]?=some e)(h2:es[j]?=some d)(I:i<j): e.1<d.1:=by
 have:=List.pairwise_iff_getElem.1 h.jZ i j (List.getElem?_eq_some_iff.1 h1).1 (List.getElem?_eq_some_iff.1 h2).1 I
 rwa [(List.getElem?_eq_some_iff.1 h1).2,(List.getElem?_eq_some_iff.1 h2).2] at this
theorem we {e:En}(h:kj lo hi es)(he:es[i]?=some e): (es.map eB)[i]?=some (eB e)/\iQ 0 (eB e)/\(eB e).length<=225:=by
 obtain⟨s1,s2,I⟩:=h.sz e (aJ he);refine⟨by rw[kP,he];rfl,?_,?_⟩
 .show 1<=(eB e).length/\1+(eB e).getD 0 0<=(eB e).length;exact⟨by simp[eB],by simp[eB];omega⟩
 .simp[eB];omega
noncomputable def lsL : Code:=dm [1,1,0,0,0] ((Tryz.f46.body).getD .skip)
theorem Q0 (hT:WB told)(hX:cC X (cK kv k))(hN:kj lo hi es)(hlen:es.length<=512): ∀(j a z:Nat) (h:H) (E:List (Nat×V)) (Q:Ex->List (Nat×V)->H->Prop),z-a<=j->a<=z->z<=es.length ->
  (∀i e,es[i]?=some e->i<a->e.1<k)->(∀i e,es[i]?=some e->z<=i->k<=e.1)->Sat h (aY x n 0 b (es.map eB)::X::S)->Has E [(0,.ptr x 0),(1,kv),(6,.int .i64 (a:Int)),(7,.int .i64 (z:Int))] ->
  (∀E' h' i,Ej es k i->Has E' [(0,.ptr x 0),(1,kv),(6,.int .i64 (i:Int))]->Sat h' (aY x n 0 b (es.map eB)::X::S)->Q (.exit 0) E' h')->WP ⟨Tryz.prog,told⟩ 45 (.loop lsL) E h Q:=by
 have hW:=hT.w;intro j;induction j with
 |zero =>
  intro a z h E Q hj Yi hz h1 h2 s hE hq;have:a=z:=by omega
  subst this;refine WP.loop (WP.has hE (zK 5 U (zC U aK (by simp) ?_)));exact zk 2 U (WP.exit (hq _ _ a ⟨hz,h1,h2⟩ ⟨U,U,U,aa⟩ s))
 |succ j ih =>
  intro a z h E Q hj Yi hz h1 h2 s hE hq;by_cases WM:a=z
  .subst WM;refine WP.loop (WP.has hE (zK 5 U (zC U aK (by simp) ?_)));exact zk 2 U (WP.exit (hq _ _ a ⟨hz,h1,h2⟩ ⟨U,U,U,aa⟩ s))
  .obtain⟨m,hm⟩:∃m,m=(a+z)/2:=⟨_,U⟩;obtain⟨e,he⟩:∃e,es[m]?=some e:=⟨_,aF (by omega)⟩;obtain⟨c1,c2,c3⟩:=we hN he;refine WP.loop (WP.has hE (zK 5 U (zB U aK (by simp;omega) ?_)));refine zk 3 U (WP.block (zK 4 U (zo U (aq (r:=.int .i64 ((a+z:Nat):Int)) U U (by rw[show((a+z:Nat):Int)=(a:Int)+(z:Int) by omega];exact aL ak)) ?_)));refine zo U (aq (r:=.int .i64 (m:Int)) U U (by rw[hm];exact AO (b:=2) (by decide) (by omega))) ?_;refine zk 6 U (zc U (oW hW c1 c2 (by decide) c3 s) ?_);intro kv2 h s;rw[sg] at s;refine zm U (zc U (qq hT (s.aC (k:=0) U (bp _ _)) (s.aC (k:=2) U hX)) ?_);rintro r h' ⟨rfl,rfl⟩;by_cases I:e.1<k
   .skip;refine zB U aK (decide_eq_true ((tY _ _).1.2 I)) (zk 4 U (zb U (by exact aL ak) ?_));refine za U (zv ?_);refine ih (m+1) z _ _ Q (by omega) (by omega) hz (λi d hd hi => ?_) h2 s.drop ⟨U,U,U,U,aa⟩ hq;by_cases q:i=m
    .subst q;rw[he] at hd;obtain rfl:=bD hd;exact I
    .have:=hN.get hd he (by omega);grind
   .skip;refine zh U (aq U U aK) (decide_eq_false (λq=>I ((tY _ _).1.1 q))) (zv (zj U (zr U (zk 2 U (zv ?_)))));refine ih a m _ _ Q (by omega) (by omega) (by omega) h1 (λi d hd hi => ?_) s.drop ⟨U,U,U,U,aa⟩ hq;by_cases q:i=m
    .subst q;rw[he] at hd;obtain rfl:=bD hd;exact List.not_lt.1 I
    .have:=hN.get he hd (by omega);grind
theorem AP (hT:WB told)(hX:cC X (cK kv k))(hN:kj lo hi es)(hlen:es.length<=512)(s:Sat h (aY x n 0 b (es.map eB)::X::S)):
  Call ⟨Tryz.prog,told⟩ 46 [.ptr x 0,kv] h λv h'=>∃i:Nat,v=.aX [.int .i64 (i:Int),.bool (sameE es k i)]/\Ej es k i/\Sat h' (aY x n 0 b (es.map eB)::X::S):=by
 have hW:=hT.w
 have s0:=s
 obtain⟨bv,cv,us,s⟩:=aU.1 s
 refine Call.of_wp (hW.free _ U) Tryz.func46 U U (zK 6 U ?_)
 have z0:=s
 refine WP.drawn [af,af,af,af,af,af,af] U (by kernel_rfl) (by kernel_rfl) ?_
 refine zM U (zN U (zF U (cP _ _) (zL U (s.ld (k:=0) U gx U) (zO U (aD U U U (gT aQ s)) ?_))))
 rw[cf]
 refine zA U (zA U ?_)
 refine aB.nil ⟨⟨aa,aa,aa,aa,aa,aa,aa,aa⟩,?_⟩
 refine zw (WP.block ?_)
 refine Q0 hT hX hN hlen es.length 0 es.length _ _ _ (by omega) (gh _) (aH _) (λi e _ h=>by omega) (λi e h1 h2=>by have:=(List.getElem?_eq_some_iff.1 h1).1;omega) s0 ⟨U,U,U,U,aa⟩ λE' h' i hL dY s' => ?_
 have s:=s'
 have agm:=hL.le
 refine WP.has dY ?_
 have s0:=s
 obtain⟨bv,cv,us,s⟩:=aU.1 s
 refine zK 6 U (zY s 0 cP gx U (zo U (aD U U U (gT aQ s)) ?_))
 rw[cf]
 by_cases hi:i<es.length
 .obtain⟨e,he⟩:∃e,es[i]?=some e:=⟨_,aF hi⟩
  obtain⟨c1,c2,c3⟩:=we hN he
  have I:sameE es k i=decide (e.1=k):=by unfold sameE;rw[he]
  refine zB U aK (by simp;omega) ?_
  refine zk 3 U (zc U (oW hW c1 c2 (by decide) c3 s0) ?_)
  intro kv2 h s
  rw[sg] at s
  refine zm U (zc U (Jl hW (s.aC (k:=0) U (bp _ _)) (s.aC (k:=2) U hX)) ?_)
  rintro r h' ⟨rfl,rfl⟩
  exact zk 4 U (WP.ret ⟨aa,_,U,i,by rw[I],hL,s.drop⟩)
 .have I:sameE es k i=false:=by unfold sameE;rw[rF (by omega)]
  refine zC U aK (by simp;omega) ?_
  exact zk 10 U (WP.ret ⟨aa,_,U,i,by rw[I],hL,s0⟩)
noncomputable def wyL : Code:=dm [1,1,0,0,0] ((Tryz.f76.body).getD .skip)
theorem WN (hT:WB told)(hX:cC X (cK kv k))(hS:Sep lo hi ks)(hlen:ks.length<=512)(wL:1<=l)(iL:l<=64): ∀(j a z:Nat) (h:H) (E:List (Nat×V)) (Q:Ex->List (Nat×V)->H->Prop),z-a<=j->a<=z->z<=ks.length->1<=a ->
  (∀i m,ks[i]?=some m->1<=i->i<a->m.key<=k)->(∀i m,ks[i]?=some m->z<=i->k<m.key)->Sat h (aY x n l b (bF ks)::X::S)->Has E [(0,.ptr x 0),(1,kv),(5,.int .i64 (a:Int)),(6,.int .i64 (z:Int))] ->
  (∀E' h' i,Way ks k i->Has E' [(5,.int .i64 ((i+1:Nat):Int))]->Sat h' (aY x n l b (bF ks)::X::S)->Q (.exit 0) E' h')->WP ⟨Tryz.prog,told⟩ 31 (.loop wyL) E h Q:=by
 have hW:=hT.w;have fin:∀(a:Nat),1<=a->a<=ks.length->(∀i m,ks[i]?=some m->1<=i->i<a->m.key<=k)->(∀i m,ks[i]?=some m->a<=i->k<m.key)->Way ks k (a-1):=λa q1 q2 q3 q4 =>
  ⟨by omega,λj m hm a1 a2=>q3 j m hm a1 (by omega),λj m hm a1=>q4 j m hm (by omega)⟩
 intro j;induction j with
 |zero =>
  intro a z h E Q hj Yi hz ha h1 h2 s hE hq;have:a=z:=by omega
  subst this;refine WP.loop (WP.has hE (zK 5 U (zC U aK (by simp) ?_)));exact zk 2 U (WP.exit (hq _ _ (a-1) (fin a ha hz h1 h2) ⟨by rw[show a-1+1=a by omega];rfl,aa⟩ s))
 |succ j ih =>
  intro a z h E Q hj Yi hz ha h1 h2 s hE hq;by_cases WM:a=z
  .subst WM;refine WP.loop (WP.has hE (zK 5 U (zC U aK (by simp) ?_)));exact zk 2 U (WP.exit (hq _ _ (a-1) (fin a ha hz h1 h2) ⟨by rw[show a-1+1=a by omega];rfl,aa⟩ s))
  .obtain⟨m,hm⟩:∃m,m=(a+z)/2:=⟨_,U⟩;obtain⟨e,he⟩:∃e,ks[m]?=some e:=⟨_,aF (by omega)⟩;have c1:=gX he;have h4:=cQ 4 e.pg;have gm:=hS.len e (aJ he);have c3:(e_ e.pg e.key).length<=225:=by rw[e_,aO,h4];omega
   have c2:iQ l (e_ e.pg e.key):=by rw[iQ,ai (by omega),e_,aO,h4];omega
   have pI:fE l (e_ e.pg e.key)=e.key:=by
    obtain⟨l',rfl⟩:∃l',l=l'+1:=⟨l-1,by omega⟩;exact qp
   refine WP.loop (WP.has hE (zK 5 U (zB U aK (by simp;omega) ?_)));refine zk 3 U (WP.block (zK 4 U (zo U (aq (r:=.int .i64 ((a+z:Nat):Int)) U U (by rw[show((a+z:Nat):Int)=(a:Int)+(z:Int) by omega];exact aL ak)) ?_)));refine zo U (aq (r:=.int .i64 (m:Int)) U U (by rw[hm];exact AO (b:=2) (by decide) (by omega))) ?_;refine zk 6 U (zc U (oW hW c1 c2 iL c3 s) ?_);intro kv2 h s;rw[pI] at s;refine zm U (zc U (qq hT (s.aC (k:=0) U (bp _ _)) (s.aC (k:=2) U hX)) ?_);rintro r h' ⟨rfl,rfl⟩;by_cases hle:e.key<=k
   .skip;refine zB U tK (decide_eq_true ((tY _ _).2.2 hle)) (zk 4 U (zb U (by exact aL ak) ?_));refine za U (zv ?_);refine ih (m+1) z _ _ Q (by omega) (by omega) hz (by omega) (λi d I a1 a2 => ?_) h2 s.drop ⟨U,U,U,U,aa⟩ hq;by_cases q:i=m
    .subst q;rw[he] at I;obtain rfl:=bD I;exact hle
    .have:=hS.jZ i m d e I he a1 (by omega);grind
   .skip;refine zh U (aq U U tK) (decide_eq_false (λq=>hle ((tY _ _).2.1 q))) (zv (zj U (zr U (zk 2 U (zv ?_)))));refine ih a m _ _ Q (by omega) (by omega) (by omega) ha h1 (λi d I a1 => ?_) s.drop ⟨U,U,U,U,aa⟩ hq;by_cases q:i=m
    .subst q;rw[he] at I;obtain rfl:=bD I;exact List.not_le.1 hle
    .have:=hS.jZ m i e d he I (by omega) (by omega);grind
theorem acd (hT:WB told)(hX:cC X (cK kv k))(hS:Sep lo hi ks)(hlen:ks.length<=512)(wL:1<=l)(iL:l<=64)(s:Sat h (aY x n l b (bF ks)::X::S)):
  Call ⟨Tryz.prog,told⟩ 76 [.ptr x 0,kv] h λv h'=>∃i:Nat,v=.int .i64 (i:Int)/\Way ks k i/\Sat h' (aY x n l b (bF ks)::X::S):=by
 have hW:=hT.w
 have I:1<=ks.length:=by
  rcases oL ks.length with q|q
  .exact absurd (iZ q) hS.ne
  .exact q
 have s0:=s
 obtain⟨bv,cv,us,s⟩:=aU.1 s
 refine Call.of_wp (hW.free _ U) Tryz.func76 U U (zK 5 U ?_)
 have z0:=s
 refine WP.drawn [af,af,af,af,af,af,af] U (by kernel_rfl) (by kernel_rfl) ?_
 refine zM U (zN U (zF U (cP _ _) (zL U (s.ld (k:=0) U gx U) (zO U (aD U U U (gT aQ s)) ?_))))
 rw[dn]
 refine zA U (zA U ?_)
 refine aB.nil ⟨⟨aa,aa,aa,aa,aa,aa,aa,aa⟩,?_⟩
 refine zw (WP.block ?_)
 refine WN hT hX hS hlen wL iL ks.length 1 ks.length _ _ _ (by omega) I (aH _) (aH _) (λi e _ I h2=>by omega) (λi e I h2=>by have:=(List.getElem?_eq_some_iff.1 I).1;omega) s0 ⟨U,U,U,U,aa⟩ λE' h' i hL dY s' => ?_
 have s:=s'
 have cq:=hL.lt
 refine WP.has dY (zK 3 U (zo U (aq (r:=.int .i64 (i:Int)) U U (by rw[show(i:Int)=((i+1:Nat):Int)-1 by omega];exact dV ak)) ?_))
 exact zk 2 U (WP.ret ⟨aa,_,U,i,U,hL,s⟩)
end
theorem s8 (b:Nat)(e:TypeId)(fz:Nat×Nat): ∀(vs:List Value) (o:Nat) (w:World) (C:Array Value),w.heap[b]?=some (.cells C e fz)->o+vs.length<=C.size ->
  ∃C',w.setCells b o vs=World.setRow w b C' e fz/\C'.size=C.size/\∀j,C'[j]?=if o<=j/\j<o+vs.length then vs[j-o]? else C[j]?:=by
 intro vs;induction vs with
 |nil =>
  intro o w C I _;have:World.setRow w b C e fz=w:=by
   unfold World.setRow;congr 1;grind
  exact⟨C,this.symm,U,λj=>by grind⟩
 |cons v vs ih =>
  intro o w C I hl;have cq:b<w.heap.size:=(Array.getElem?_eq_some_iff.1 I).1;simp only[aW] at hl;obtain⟨C',h1,h2,h3⟩:=ih (o+1) (World.setRow w b (C.setIfInBounds o v) e fz) (C.setIfInBounds o v) (by rw[kE cq];simp) (by simp;omega);refine⟨C',?_,by rw[h2];simp,λj => ?_⟩
  .rw[World.setCells,D4 I,h1,setRow_setRow]
  .rw[h3];by_cases hj:j=o
   .subst hj;rw[ai (by omega),ay (by simp),gK,G4,ay U,ay (by omega)];rfl
   .grind
theorem Cy (w:World)(C D:Array Value)(e:TypeId)(fz D2:Nat×Nat): World.setRow (w.alloc (.cells C e fz)) w.heap.size D e D2=w.alloc (.cells D e D2):=by
 unfold World.setRow World.alloc;congr 1;apply Array.ext';simp
set_option maxHeartbeats 1000000 in
theorem aak {c:Ctx}{w:World}{y:Nat}{cs:List V}(I:Rel c h w)(hg:h.tr.get x=some (.cells n cs false))(hy:h.tr.get y=some (.cells 1 [u] false))(S_:y≠x)(hi:i<n)(hn:n<=4096)
 (Kn:wf c (.sl x 0 n (.rest 1 0))): kK Tryz.prog 52 [.sl x 0 n (.rest 1 0),.int .i64 i,.sl y 0 1 (.exact 1)] c w (.sl h.next 0 (n+1) (.rest 1 0)) ((h.put x none).new (.cells (n+1) (c8 i u cs) false)):=by
 obtain⟨hl,Fo,C,e,fz,hb,hle,hC,wk⟩:=I.obj x _ hg;obtain⟨_,hwu,D,e2,fz2,ob,agn,hD,WO⟩:=I.obj y _ hy;have wk:fz=(0,0):=wk;have WO:fz2=(0,0):=WO;subst wk WO;have hX:=I.Hz hg (by simp);have TF:(c.ρ y).1≠(c.ρ x).1:=λhe=>S_ (I.Er hy hg he hX);have hxN:x<c.N:=I.live x _ hg;have hrs:rowSize w (c.ρ x).1=C.size:=by unfold rowSize;rw[hb]
 have RK:c.room x 0 1=C.size-(c.ρ x).2:=by
  simp only[Ctx.room,I.zz x hxN,hrs,eF,De]
 have wz:c.room x 0 1≠0:=by omega
 have oD:n<=c.room x 0 1:=by
  simp only[wf] at Kn;exact Kn.2.2
 have ea:(#[.slice (some ⟨(c.ρ x).1,(c.ρ x).2,none⟩) n (c.room x 0 1),.int .i64 i,.slice (some ⟨(c.ρ y).1,(c.ρ y).2,none⟩) 1 1]:Array Value)=([V.sl x 0 n (.rest 1 0),.int .i64 i,.sl y 0 1 (.exact 1)].map (conc c)).toArray:=by
  simp[conc]
 have fN:(cs.map (conc c)).length=n:=by simp[hl]
 have xO:∀j v,(cs.map (conc c))[j]?=some v->w.cell? ⟨(c.ρ x).1,(c.ρ x).2+j,none⟩=some v:=λj v hj=>by
  rw[kP] at hj;obtain⟨a,h1,rfl⟩:=Option.map_eq_some_iff.1 hj;simp[World.cell?,hb,hC j a h1]
 have hvi:∀j v,([conc c u])[j]?=some v->w.cell? ⟨(c.ρ y).1,(c.ρ y).2+j,none⟩=some v:=λj v hj=>by
  cases j with
  |succ j=>simp at hj
  |zero =>
   simp only[jN,aA] at hj;subst hj;have:=hD 0 u U;simp only[eF] at this ⊢;simp[World.cell?,ob,this]
 have OT:∀v∈cs.map (conc c),v.oneCell'=true:=λv hv=>by
  obtain⟨a,h1,rfl⟩:=List.mem_map.1 hv;exact ua (Fo a h1).2
 have OU:∀v∈[conc c u],v.oneCell'=true:=λv hv=>by
  simp only[Hi] at hv;subst hv;exact ua (hwu u (by simp)).2
 have ace:∀v∈c8 i u cs,wf c v/\storable v=true:=λv hv=>by
  simp only[c8,nH,gd] at hv;rcases hv with h1|rfl|h1
  .exact Fo v (iM h1)
  .exact hwu v (by simp)
  .exact Fo v (i_ h1)
 have jl:n+1=(c8 i u cs).length:=by rw[ki (by omega)];omega
 have u7:∀a:Addr,a.block=(c.ρ x).1\/a.block=(c.ρ y).1->w.frozen? a=false:=λa ha=>by
  unfold World.frozen?;rcases ha with ha|ha<;>rw[ha]<;>simp[hb,ob]
 have xN:(c.ρ x).1<w.heap.size:=(Array.getElem?_eq_some_iff.1 hb).1;unfold kK;rw[<-ea];by_cases su:n+1<=c.room x 0 1
 .refine Calls.mono (TE (c.ρ x).1 (c.ρ x).2 n (c.room x 0 1) i (c.ρ y).1 (c.ρ y).2 1 1 (cs.map (conc c)) [conc c u] w hi (by omega) su (by omega) TF fN U xO
   (λj hj=>by simp[World.cell?,hb];omega) (λj _=>u7 _ (.inl U)) hvi OT OU e2 e D.size C.size (by simp[World.shape?,ob]) (by simp[World.shape?,hb]) (by omega) (u7 _ (.inr U)) (u7 _ (.inr U))) ?_
  rintro r w' ⟨rfl,rfl⟩;obtain⟨C1,a1,a2,a3⟩:=s8 (c.ρ x).1 e (0,0) ((cs.map (conc c)).drop i) ((c.ρ x).2+(i+1)) w.drew C hb (by simp;omega);obtain⟨C2,b1,b2,b3⟩:=s8 (c.ρ x).1 e (0,0) [conc c u] ((c.ρ x).2+i) (World.setRow w.drew (c.ρ x).1 C1 e (0,0)) C1 (by rw[kE (by exact xN)];simp) (by simp;omega);rw[a1,b1,setRow_setRow];have ha:=I.drew.aaX (off:=0) (m:=n+1) (cs':=c8 i u cs) (C':=C2) (e:=e) hg hb (by omega) jl (by omega) ace (by omega) (λj v hj=>by
   rw[nc] at hj;rw[eF,b3,a3];by_cases h1:j<i
   .rw[ay h1] at hj;rw[ai (by simp;omega),ai (by omega)];exact hC j v hj
   .rw[ai h1] at hj;by_cases h2:j=i
    .rw[ay h2] at hj;cases hj
     subst h2;rw[ay (by simp),gK];rfl
    .rw[ai h2] at hj;have I4:j-1<cs.length:=(List.getElem?_eq_some_iff.1 hj).1;rw[ai (by simp;omega),ay (by simp;omega),fq,kP,show i+((c.ρ x).2+j-((c.ρ x).2+(i+1)))=j-1 by omega,hj];rfl)
  have acf:(c.at x 0).room h.next 0 1=c.room x 0 1:=by simp[Ctx.room,Ctx.at,I.next]
  refine⟨_,?_,?_,ha.1,(dB.drew c w).trans ha.2⟩
  .simp only[conc,acf,wz,gR];simp[Ctx.at,I.next]
  .simp only[wf,acf];exact⟨by simp[Ctx.at,I.next],by omega,su⟩
 .refine Calls.mono (Wz (c.ρ x).1 (c.ρ x).2 n (c.room x 0 1) i (c.ρ y).1 (c.ρ y).2 1 1 (cs.map (conc c)) [conc c u] w hi (by omega) oD (by omega) (by omega) fN U xO hvi OT OU) ?_;rintro r w' ⟨G,YG,hG,rfl,hRS,rfl,hR⟩;obtain⟨C1,a1,a2,a3⟩:=s8 w.heap.size 29 (0,0) [conc c u] i (w.drew.alloc (.cells YG 29)) YG ((iH w.drew _ w.heap.size).trans (if_pos U)) (by simp;omega);have e1:World.setRow (w.drew.alloc (.cells YG 29)) w.heap.size C1 29 (0,0)=w.drew.alloc (.cells C1 29):=Cy w.drew YG C1 _ _ _;have e2:(w.drew.alloc (.cells C1 29)).drew=w.drew.drew.alloc (.cells C1 29):=rfl;rw[a1,e1,e2];obtain⟨C2,b1,b2,b3⟩:=s8 w.heap.size 29 (0,0) ((cs.map (conc c)).drop i) (i+1) (w.drew.drew.alloc (.cells C1 29)) C1 ((iH w.drew.drew _ w.heap.size).trans (if_pos U)) (by simp;omega);have e3:World.setRow (w.drew.drew.alloc (.cells C1 29)) w.heap.size C2 29 (0,0)=w.drew.drew.alloc (.cells C2 29):=Cy w.drew.drew C1 C2 _ _ _;rw[b1,e3];have pK:((c8 i u cs).map (conc c)++C2.toList.drop (n+1)).toArray=C2:=by
   apply Array.ext';rw[List.toList_toArray];apply nE;intro j;have Gk:((c8 i u cs).map (conc c)).length=n+1:=by rw[cf,<-jl]
   by_cases hj:j<n+1
   .rw[rE (by omega),kP,nc,show C2.toList[j]?=C2[j]? from nA,b3,a3];by_cases h1:j<i
    .rw[ay h1,ai (by omega),ai (by omega),hR j (conc c cs[j]) (by rw[kP,aF (by omega)];rfl) h1,aF (by omega)];rfl
    .rw[ai h1];by_cases h2:j=i
     .subst h2;rw[ay U,ai (by omega),ay (by simp),gK];rfl
     .rw[ai h2,ay (by simp;omega),fq,kP,show i+(j-(i+1))=j-1 by omega]
   .rw[hU (by omega),fq,Gk,show n+1+(j-(n+1))=j by omega]
  obtain⟨g1,g2⟩:=(I.drew.drew.kill x).newRow ace 29 (C2.toList.drop (n+1));have gm:(c8 i u cs).length+(C2.toList.drop (n+1)).length=G:=by simp[<-jl];omega
  rw[pK,gm,<-jl] at g1;rw[pK,gm] at g2;have TT:(c.grow w.drew.drew.heap.size 0 G).room h.next 0 1=G:=by
   simp only[Ctx.room,I.next,Ctx.grow,World.size_drew,dI,ie,eF,De]
  have hG0:G≠0:=by omega
  refine⟨_,?_,?_,g1,(dB.drew c w).trans ((dB.drew c w.drew).trans g2)⟩
  .simp only[conc,TT,ai hG0];simp[I.next,Ctx.grow]
  .simp only[wf,TT];exact⟨by rw[I.next,mQ];omega,by omega,hG⟩
def GJ : OY:=λargs h r=>(∃x y n i cs u,args=[.sl x 0 n (.rest 1 0),.int .i64 (i:Nat),.sl y 0 1 (.exact 1)]/\h.tr.get x=some (.cells n cs false)/\h.tr.get y=some (.cells 1 [u] false)/\i<n /\
  r=(.sl h.next 0 (n+1) (.rest 1 0),(h.put x none).new (.cells (n+1) (c8 i u cs) false))) \/
 iS CB 52 args h r.1 r.2/\((∃x n t y,args=[.sl x 0 n t,.int .i64 (n:Nat),y])\/∃y,args=[.aZ,.int .i64 0,y])
theorem adL {k:IntKind}{a b:Int}: builtinV P h .max ts [.int k a,.int k b]=some (.int k (max a b),h):=by
 simp only[builtinV,foldV,maxV,fe,ag,gQ];congr 2;rw[Int.max_def];by_cases h:b>a
 .rw[dZ h,ag,ay (by omega)]
 .rw[f_ h,aT];split
  .have:a=b:=by omega
   rw[this]
  .rfl
theorem Q1 {n l:Int}(hb:View h bv b)(hc:qZ (T.get h.tr) 1 cv us): buildV Tryz.prog 101 [(0,.int .i64 n),(1,.int .i64 l),(2,bv),(3,cv)]=some (.agg [.int .i64 n,.int .i64 l,bv,cv]):=by
 rcases hb.2 with⟨rfl|⟨a,rfl⟩,_⟩|⟨id,off,cap,N,cs,st,rfl,_⟩<;>rcases hc.2 with⟨rfl,_⟩|⟨wH,n2,I,N2,rest,rfl,_⟩<;>(rw[Qb];rfl)
theorem bH.reads (h:bH b k link extra cs): b.length=512/\cI b=true/\b.getD 12 0=k/\dQ b 22 4=extra:=⟨h.len,h.good,h.kind,h.extra⟩
theorem kx : cy cs=tot cs+4*cs.length:=rfl
theorem TU (I:∀c∈cs,c.length<=225)(hl:cs.length<=512): cy cs<=512*229:=by
 have:=Cs (cs:=cs) (M:=229) λc h=>by have:=I c h;omega
 have:=nB 229 hl;omega
section
variable {told:cu} {p least:Nat} {v:V}
theorem xP (hX:wY X 1 cv us)(hc:cs[i]?=some c)(hu:P.underlying t=some (.slice e))(he:bq P e=some 1)(ha:isAggT P e=some false)(s:Sat h (X::dy us cs::S)):
  ∃u id off,indexAddrV P t cv (.int .i64 (i:Int))=some (.ptr id off)/\loadV P h e (.ptr id off)=some u/\us[i]?=some u/\Sat h (X::dy us cs::og u c::S):=by
 obtain⟨u,I,s1⟩:=TB (s.ae [1]) hc;have hl:=ko (s.ae [1]);have hi:=(List.getElem?_eq_some_iff.1 hc).1;obtain⟨id,off,e1,e2⟩:=Wy (P:=P) (t:=t) (e:=e) (i:=i) (s.jo (j:=0) U hX) (by omega) (by decide) hu he;refine⟨u,id,off,e1,?_,I,?_⟩
 .have:=e2 0 u e (by rw[cH,ic,ay (by decide),fq,eF];exact I) ha
  rwa [eF] at this
 .have s1:=s1.ae [2,1,0];exact s1
theorem zZ (I:wY X 1 cv us)(hu:P.underlying t=some (.slice e))(s:Sat h (X::dy us cs::S)): lenV P h t cv=some (.int .i64 (cs.length:Int)) :=
 zT (s.jo (j:=0) U I) (by rw[ko (s.ae [1]),cH]) (by decide) hu
theorem si (hT:W told)(s:Sat h (X::S))(I:cC X (cK v b))(hl:b.length<1073741824):
  Call ⟨Tryz.prog,told⟩ 49 [v] h λr h'=>Sat h' (bf r b::X::S):=by
 have hv:=s.aC (k:=0) U I;refine Call.of_wp (hT.free _ U) Tryz.func49 U U (zK 7 U (zo U (aD U U U (bw aP (s.aC (k:=0) U I))) (au.any U U U (OpR.uD U s U U U U (by omega)) ?_)));intro u h s;refine zm U (au.any U U U (OpR.qB U s I U U U U (by simp;omega)) ?_);intro u2 h s;rw[dL] at s;exact zk 2 U (WP.ret ⟨aa,_,U,s⟩)
theorem ET (hT:W told)(s:Sat h (X::S))(I:cC X (cK v b)): Call ⟨Tryz.prog,told⟩ 44 [v] h λr h'=>r=.bool (decide (1<=b.length/\b.length<=96))/\h'=h:=by
 have hv:=s.aC (k:=0) U I;refine Call.of_wp (hT.free _ U) Tryz.func44 U U (zK 7 U (zo U (aD U U U (bw aP (s.aC (k:=0) U I))) ?_));by_cases h1:1<=b.length
 .skip;refine zB U j6 (by simp;omega) ?_;refine zk 2 U (zo U (aD U U U (bw aP (s.aC (k:=0) U I))) ?_);by_cases h2:b.length<=96
  .skip;refine zB U tK (by simp;omega) ?_;exact zk 3 U (WP.ret ⟨aa,_,U,by rw[dZ ⟨h1,h2⟩],U⟩)
  .skip;refine zC U tK (by simp;omega) ?_;exact zk 3 U (WP.ret ⟨aa,_,U,by rw[f_ (λq=>h2 q.2)],U⟩)
 .skip;refine zC U j6 (by simp;omega) ?_;exact zk 7 U (WP.ret ⟨aa,_,U,by rw[f_ (λq=>h1 q.1)],U⟩)
noncomputable def szL : Code:=dm [1,1,0,1,0,0] ((Tryz.f84.body).getD .skip)
theorem Q2 (hT:W told)(hX:wY X 1 cv us)(hc:∀c∈cs,c.length<=225)(hl:cs.length<=512): ∀(j i:Nat) (h:H) (E:List (Nat×V)) (Q:Ex->List (Nat×V)->H->Prop),i+j=cs.length ->
  Sat h (X::dy us cs::S)->Has E [(3,.int .i64 (cy (cs.take i):Int)),(6,cv),(7,.int .i64 (cs.length:Int)),(8,.int .i64 (i:Int))] ->
  (∀E' h',Has E' [(3,.int .i64 (cy cs:Int))]->Sat h' (X::dy us cs::S)->Q (.exit 0) E' h')->WP ⟨Tryz.prog,told⟩ 19 (.loop szL) E h Q:=by
 have hz:=TU hc hl;intro j;induction j with
 |zero =>
  intro i h E Q hi s hE hq;have hi:i=cs.length:=hi;subst hi;rw[jR] at hE;refine WP.loop (WP.has hE (zg U (zC U aK (by simp) ?_)));exact zk 3 U (WP.exit (hq _ _ ⟨U,aa⟩ s))
 |succ j ih =>
  intro i h E Q hi s hE hq;obtain⟨c,I⟩:∃c,cs[i]?=some c:=⟨_,aF (by omega)⟩;obtain⟨u,id,off,e1,e2,_,s⟩:=xP (P:=Tryz.prog) hX I aQ dP bS s;have fN:=hc c (aJ I);have h1:=AL I;have h2:=uH (cs:=cs) (k:=i+1);refine WP.loop (WP.has hE (zg U (zB U aK (by simp;omega) ?_)));refine zk 5 U (WP.block (zg U (zo U (bM (r:=.ptr id off) U U e1) (zl U e2 (zk 5 U (zo U (aD U U U (bw aP (s.aC (k:=2) U (bp _ _)))) (zo U (aq (r:=.int .i64 ((c.length+4:Nat):Int)) U U (by rw[show((c.length+4:Nat):Int)=(c.length:Int)+4 by omega];exact aL ak)) ?_)))))));refine zo U (aq (r:=.int .i64 (cy (cs.take (i+1)):Int)) U U (by rw[show((cy (cs.take (i+1)):Nat):Int)=(cy (cs.take i):Int)+((c.length+4:Nat):Int) by omega];exact aL ak)) ?_;refine za U (zv (zr U (zb U (by exact aL ak) ?_)));refine zm U (zv ?_);exact ih (i+1) _ _ Q (by omega) (s.del 2) ⟨U,U,U,U,aa⟩ hq
theorem EU (hT:W told)(hX:wY X 1 cv us)(hc:∀c∈cs,c.length<=225)(hl:cs.length<=512)(s:Sat h (X::dy us cs::S)):
  Call ⟨Tryz.prog,told⟩ 84 [cv] h λv h'=>v=.int .i64 (cy cs:Int)/\Sat h' (X::dy us cs::S):=by
 refine Call.of_wp (hT.free _ U) Tryz.func84 U U (zK 12 U (zo U (aD U U U (zZ hX aQ s)) (zk 2 U (WP.block (Q2 hT hX hc hl cs.length 0 _ _ _ (by omega) s ⟨U,U,U,U,aa⟩ λE' h' I s' => ?_)))));have s:=s';exact WP.has I (zK 5 U (WP.ret ⟨aa,_,U,U,s⟩))
noncomputable def hvL : Code:=dm [1,1,0,1,0,0] ((Tryz.f131.body).getD .skip)
theorem NA (hT:W told)(hX:wY X 1 cv us)(hc:∀c∈cs,c.length<=225)(hl:cs.length<=512)(hle:least<=4)(h1:1<=cs.length): ∀(j k I GK:Nat) (h:H) (E:List (Nat×V)) (Q:Ex->List (Nat×V)->H->Prop),k+j=cs.length->1<=k->(I=0->∀i,i<k->¬mz cs least i)->(I≠0->mz cs least I) ->
  Sat h (X::dy us cs::S)->Has E [(0,cv),(1,.int .i64 (least:Int)),(5,.int .i64 (cy cs:Int)),(6,.int .i64 (cy (cs.take (k-1)):Int)),(7,.int .i64 (I:Int)),(8,.int .i64 (GK:Int)),(9,.int .i64 (k:Int))] ->
  (∀E' h' I,(I=0->∀i,¬mz cs least i)->(I≠0->mz cs least I)->Has E' [(7,.int .i64 (I:Int))]->Sat h' (X::dy us cs::S)->Q (.exit 0) E' h')->WP ⟨Tryz.prog,told⟩ 64 (.loop hvL) E h Q:=by
 have hz:=TU hc hl;intro j;induction j with
 |zero =>
  intro k I GK h E Q hk lN nh lB s hE hq;have hk:k=cs.length:=hk;subst hk;refine WP.loop (WP.has hE (zK 5 U (zo U (aD U U U (zZ hX aQ s)) (zC U aK (by simp) ?_))));refine zk 2 U (WP.exit ?_);exact hq _ _ I (λe i hi=>by
   by_cases q:i<cs.length
   .exact nh e i q hi
   .exact q hi.k2) lB ⟨U,aa⟩ s
 |succ j ih =>
  intro k I GK h E Q hk lN nh lB s hE hq;obtain⟨c,xO⟩:∃c,cs[k-1]?=some c:=⟨_,aF (by omega)⟩;obtain⟨u,id,off,e1,e2,_,s⟩:=xP (P:=Tryz.prog) hX xO aQ dP bS s;have fN:=hc c (aJ xO);have h2:=AL xO;have h3:=uH (cs:=cs) (k:=k);rw[show k-1+1=k by omega] at h2;have next:∀(AQ WQ:Nat) {h:H} {E:List (Nat×V)},(AQ=0->¬mz cs least k/\I=0)->(AQ≠0->AQ=I\/AQ=k/\mz cs least k)->Sat h (X::dy us cs::og u c::S) ->
    Has E [(0,cv),(1,.int .i64 (least:Int)),(5,.int .i64 (cy cs:Int)),(6,.int .i64 (cy (cs.take k):Int)),(7,.int .i64 (AQ:Int)),(8,.int .i64 (WQ:Int)),(9,.int .i64 ((k+1:Nat):Int))]->WP ⟨Tryz.prog,told⟩ 64 (.loop hvL) E h Q:=by
   intro AQ WQ h E q1 q2 s hE;refine ih (k+1) AQ WQ _ _ Q (by omega) (by omega) (λe i hi => ?_) (λe => ?_) (s.del 2) hE hq
   .obtain⟨q3,q4⟩:=q1 e;by_cases q:i=k
    .subst q;exact q3
    .exact nh q4 i (by omega)
   .rcases q2 e with q3|⟨q3,q4⟩
    .rw[q3];exact lB (by omega)
    .rw[q3];exact q4
  refine WP.loop (WP.has hE (zK 5 U (zo U (aD U U U (zZ hX aQ s)) (zB U aK (by simp;omega) ?_))));refine zk 4 U (WP.block (zK 5 U (zo U (aq (r:=.int .i64 ((k-1:Nat):Int)) U U (by rw[show((k-1:Nat):Int)=(k:Int)-1 by omega];exact dV ak)) ?_)));refine zo U (bM (r:=.ptr id off) U U e1) (zl U e2 (zo U (aD U U U (bw aP (s.aC (k:=2) U (bp _ _)))) (zo U (aq (r:=.int .i64 ((c.length+4:Nat):Int)) U U (by rw[show((c.length+4:Nat):Int)=(c.length:Int)+4 by omega];exact aL ak)) ?_)));refine zo U (aq (r:=.int .i64 (cy (cs.take k):Int)) U U (by rw[show((cy (cs.take k):Nat):Int)=(cy (cs.take (k-1)):Int)+((c.length+4:Nat):Int) by omega];exact aL ak)) ?_;refine zk 7 U ?_;by_cases c1:k<least
  .skip;refine zB U aK (by simp;omega) ?_;refine zk 20 U (WP.exit (zK 2 U (zb U (by exact aL ak) ?_)));refine za U (zv ?_);exact next I GK (λe=>⟨λq=>by have:=q.l1;omega,e⟩) (λ_=>.inl U) s ⟨U,U,U,U,U,U,U,aa⟩
  .skip;refine zC U aK (by simp;omega) ?_;refine zk 2 U (zo U (aD U U U (zZ hX aQ s)) (zm U (zo U (aq (r:=.int .i64 ((cs.length-k:Nat):Int)) U U (by rw[show((cs.length-k:Nat):Int)=(cs.length:Int)-(k:Int) by omega];exact dV ak)) ?_)));refine zm U ?_;by_cases c2:cs.length-k<least
   .skip;refine zB U aK (by simp;omega) ?_;refine zk 13 U (WP.exit (zK 2 U (zb U (by exact aL ak) ?_)));refine za U (zv ?_);exact next I GK (λe=>⟨λq=>by have:=q.l2;omega,e⟩) (λ_=>.inl U) s ⟨U,U,U,U,U,U,U,aa⟩
   .skip;refine zC U aK (by simp;omega) ?_;refine zk 3 U ?_;by_cases c3:486<cy (cs.take k)
    .skip;refine zB U cA (by simp;omega) ?_;refine zk 9 U (WP.exit (zK 2 U (zb U (by exact aL ak) ?_)));refine za U (zv ?_);exact next I GK (λe=>⟨λq=>by have:=q.s1;omega,e⟩) (λ_=>.inl U) s ⟨U,U,U,U,U,U,U,aa⟩
    .skip;refine zC U cA (by simp;omega) ?_;refine zk 4 U (zo U (aq (r:=.int .i64 (cy (cs.drop k):Int)) U U (by rw[show((cy (cs.drop k):Nat):Int)=(cy cs:Int)-(cy (cs.take k):Int) by omega];exact dV ak)) ?_);by_cases c4:486<cy (cs.drop k)
     .skip;refine zB U cA (by simp;omega) ?_;refine zk 3 U (WP.exit (zK 2 U (zb U (by exact aL ak) ?_)));refine za U (zv ?_);exact next I GK (λe=>⟨λq=>by have:=q.s2;omega,e⟩) (λ_=>.inl U) s ⟨U,U,U,U,U,U,U,aa⟩
     .skip;refine zC U cA (by simp;omega) ?_;refine zk 9 U (zo U (aq (r:=.int .i64 (cy (cs.drop k):Int)) U U (by rw[show((cy (cs.drop k):Nat):Int)=(cy cs:Int)-(cy (cs.take k):Int) by omega];exact dV ak)) ?_);obtain⟨d,hd⟩:∃d:Nat,max ((cy (cs.take k):Nat):Int) ((cy (cs.drop k):Nat):Int)=(d:Int):=⟨max (cy (cs.take k)) (cy (cs.drop k)),by omega⟩;refine zo U (KO (r:=.int .i64 (d:Int)) U U (adL.trans (by rw[hd]))) ?_;have nY:mz cs least k:=⟨lN,by omega,by omega,by omega,by omega,by omega⟩;refine zk 5 U ?_;by_cases c5:I=0
      .skip;refine zB U dK (by simp;omega) ?_;refine zk 5 U (zv (zi U (zr U (zk 4 U (zv (zr U (zm U (zb U (by exact aL ak) ?_))))))));refine za U (zv ?_);exact next k d (λe=>by omega) (λ_=>.inr ⟨U,nY⟩) s ⟨U,U,U,U,U,U,U,aa⟩
      .skip;refine zC U dK (by simp;omega) ?_;refine zk 3 U ?_;by_cases c6:d<GK
       .skip;refine zB U aK (by simp;omega) ?_;refine zp U (zv (zi U (zr U (zk 4 U (zv (zr U (zm U (zb U (by exact aL ak) ?_))))))));refine za U (zv ?_);exact next k d (λe=>by omega) (λ_=>.inr ⟨U,nY⟩) s ⟨U,U,U,U,U,U,U,aa⟩
       .skip;refine zC U aK (by simp;omega) ?_;refine zp U (zv (zj U (WP.skip (zr U (zm U (zb U (by exact aL ak) ?_))))));refine za U (zv ?_);exact next I GK (λe=>absurd e c5) (λ_=>.inl U) s ⟨U,U,U,U,U,U,U,aa⟩
theorem Jn (hT:W told)(hX:wY X 1 cv us)(hc:∀c∈cs,c.length<=225)(hl:cs.length<=512)(hle:least<=4)(h1:1<=cs.length)(s:Sat h (X::dy us cs::S)):
  Call ⟨Tryz.prog,told⟩ 131 [cv,.int .i64 (least:Int)] h λv h'=>∃I:Nat,v=.int .i64 (I:Int)/\(I=0->∀i,¬mz cs least i)/\(I≠0->mz cs least I)/\Sat h' (X::dy us cs::S):=by
 refine Call.of_wp (hT.free _ U) Tryz.func131 U U (zK 7 U (zc U (EU hT hX hc hl s) ?_));rintro v h ⟨rfl,s⟩;refine zk 10 U (WP.block (NA hT hX hc hl hle h1 (cs.length-1) 1 0 0 _ _ _ (by omega) (aH _) (λ_ i hi q=>by have:=q.k1;omega) (λe=>absurd U e) s ⟨U,U,U,U,U,U,U,aa⟩ λE' h' I q1 q2 dY s' => ?_));have s:=s';exact WP.has dY (zK 5 U (WP.ret ⟨aa,_,U,I,U,q1,q2,s⟩))
noncomputable def tmL : Code:=dm [1,1,1,0,1,0,0] ((Tryz.f165.body).getD .skip)
theorem Q3 (hT:W told)(hX:wY X 1 cv us)(hf:cy cs<=486): ∀(j i:Nat) (v:V) (b:List Nat) (h:H) (E:List (Nat×V)) (Q:Ex->List (Nat×V)->H->Prop),i+j=cs.length->fh b 204 0 l (cs.take i) ->
  Sat h (X::dy us cs::bf v b::S)->Has E [(5,v),(19,cv),(20,.int .i64 (cs.length:Int)),(21,.int .i64 (i:Int))] ->
  (∀E' h' v' b',fh b' 204 0 l cs->Has E' [(5,v')]->Sat h' (X::dy us cs::bf v' b'::S)->Q (.exit 0) E' h')->WP ⟨Tryz.prog,told⟩ 35 (.loop tmL) E h Q:=by
 have hlen:cs.length<=512:=by rw[kx] at hf;omega
 intro j;induction j with
 |zero =>
  intro i v b h E Q hi hp s hE hq;have hi:i=cs.length:=hi;subst hi;rw[jR] at hp;refine WP.loop (WP.has hE (zg U (zC U aK (by simp) ?_)));exact zk 3 U (WP.exit (hq _ _ v b hp ⟨U,aa⟩ s))
 |succ j ih =>
  intro i v b h E Q hi hp s hE hq;obtain⟨c,xO⟩:∃c,cs[i]?=some c:=⟨_,aF (by omega)⟩;obtain⟨u,id,off,e1,e2,_,s⟩:=xP (P:=Tryz.prog) hX xO aQ dP bS s;have h1:=AL xO;have h2:=uH (cs:=cs) (k:=i+1);have htl:(cs.take i).length=i:=by rw[cz];omega
  have I:(cs.take (i+1)).length=i+1:=by rw[cz];omega
  have qx:cs.take (i+1)=cs.take i++[c]:=by rw[nF,xO];rfl
  have L2:=OH (told:=told) hT (s.ae [3,2]) (bh _ _) (bp _ _) hp (by rw[htl];rw[kx,kx] at h1;rw[htl,I] at h1;rw[kx,I] at h2;omega);rw[htl] at L2;refine WP.loop (WP.has hE (zg U (zB U aK (by simp;omega) ?_)));refine zk 5 U (WP.block (zK 3 U (zo U (bM (r:=.ptr id off) U U e1) (zl U e2 (zk 7 U (zc U (L2) ?_))))));rintro r h ⟨u',b',rfl,qt,s⟩;rw[<-qx] at qt;refine zk 4 U (zv (zr U (zb U (by exact aL ak) ?_)));refine zm U (zv ?_);exact ih (i+1) u' b' _ _ Q (by omega) qt ((s.ae [3,3,0]).del 4 |>.del 3) ⟨U,U,U,U,aa⟩ hq
theorem L3 (I:W told)(hX:wY X 1 cv us)(hf:cy cs<=486)(hl:l<=64)(s:Sat h (X::dy us cs::S)):
  Call ⟨Tryz.prog,told⟩ 165 [.int .i64 (l:Int),cv] h λv h'=>∃b',fh b' 204 0 l cs/\Sat h' (bf v b'::X::dy us cs::S):=by
 refine Call.of_wp (I.free _ U) Tryz.func165 U U (zK 6 U (zc U (Lt (kd:=204) I s (by decide)) ?_));rintro v h ⟨u1,b1,rfl,lB,s⟩;refine zk 10 U (zc U (OG (lk:=0) (ex:=l) I s (bh _ _) lB (by decide) (by omega)) ?_);rintro v h ⟨u2,b2,rfl,ob,s⟩;have s:=s.ae [2,2,0];refine zk 9 U (zo U (aD U U U (zZ hX aQ s)) (zk 2 U (WP.block (Q3 I hX hf cs.length 0 u2 b2 _ _ _ (by omega) ob s ⟨U,U,U,U,aa⟩ λE' h' v' b' uI dY s' => ?_))));have s:=s';exact WP.has dY (zK 5 U (WP.ret ⟨aa,_,U,b',uI,(s.ae [2,0,0]).del 3⟩))
theorem wZ (hT:W told)(hB:B<=2000)(I:EI N B ε)(hw:NW N now)(hi:i<N)(s:Sat h (GA g a p q r data aR now ε::X::S))(hX:cC X (cK v b))(hg:cI b=true):
  Call ⟨Tryz.prog,told⟩ 55 [.ptr g 0,.int .i64 (i:Int),v] h λv h'=>∃ah,v=.int .i64 0/\EI N B ah/\Sm N ε ah/\NW N (cD (i:Int) b now)/\Sat h' (GA g a p q r data aR (cD (i:Int) b now) ah::X::S):=by
 have AH:=I.cW;have hwt:=tW (ε:=ε);have hlen:=jy hg;have hb:=(s.aC (k:=1) U hX).1;have s:=cY.1 s;refine(Ja hT (n:=(i:Int)) s hX (by omega) I.ok (by omega) (λe he=>jy (hw.good e he).1)).mono ?_;rintro v h ⟨e,aN,ah,hr,rfl,s⟩;obtain⟨k1,k2,k3,k4,k5⟩:=hr.ec I.ec I.ok.pins;obtain⟨rfl,rfl⟩:=k5 (by omega) (by omega) hg;exact⟨ah,U,I.Lk hr,⟨k2,λP hP hv=>hP.Lk hr I.ec hv,hr.cW⟩,hw.put (by omega) (by omega) hg hb,cY.2 s⟩
theorem mX (hT:W told)(hB:B<=2000)(cn:EI N B ε)(hw:NW N now)(hn:n<N)(hX:wY X 1 cv us)(hf:cy cs<=486)(hl:l<=64)(s:Sat h (GA g a p q r data aR now ε::X::dy us cs::S)):
  Call ⟨Tryz.prog,told⟩ 92 [.ptr g 0,.int .i64 (n:Int),.int .i64 (l:Int),cv] h λv h'=>∃ah b',v=.int .i64 0/\EI N B ah/\Sm N ε ah/\NW N (cD (n:Int) b' now)/\fh b' 204 0 l cs/\Sat h' (GA g a p q r data aR (cD (n:Int) b' now) ah::X::dy us cs::S):=by
 have s:=s.ae [1,1];refine Call.of_wp (hT.free _ U) Tryz.func92 U U (zK 10 U (zc U (L3 hT hX hf hl s) ?_));rintro bv h ⟨b',hp,s⟩;have s:=s.ae [3,0];refine zc U (wZ hT hB cn hw hn s (bh _ _) hp.good) ?_;rintro v h ⟨ah,rfl,I,hs,uz,s⟩;exact zk 2 U (WP.ret ⟨aa,_,U,ah,b',U,I,hs,uz,hp,s.del 1⟩)
noncomputable def ldL : Code:=dm [1,1,1,1,1,1,1,0,1,0,0] ((Tryz.f77.body).getD .skip)
theorem TV (hT:W told){nn:V}(hc:∀c∈cs,iQ l c/\c.length<=225)(hlen:cs.length<=512)(hl:l<=64): ∀(j i:Nat) (h:H) (E:List (Nat×V)) (Q:Ex->List (Nat×V)->H->Prop),i+j=cs.length ->
  Sat h (roH 1 cv us::dy us cs::S)->Has E [(1,nn),(6,v),(11,.int .i64 (l:Int)),(12,cv),(50,cv),(51,.int .i64 (cs.length:Int)),(52,.int .i64 (i:Int))] ->
  (∀E' h',Has E' [(1,nn),(6,v),(11,.int .i64 (l:Int)),(12,cv)]->Sat h' (roH 1 cv us::dy us cs::S)->Q (.exit 0) E' h')->WP ⟨Tryz.prog,told⟩ 89 (.loop ldL) E h Q:=by
 intro j;induction j with
 |zero =>
  intro i h E Q hi s hE hq;have hi:i=cs.length:=hi;subst hi;refine WP.loop (WP.has hE (zg U (zC U aK (by simp) ?_)));exact zk 3 U (WP.exit (hq _ _ ⟨U,U,U,U,aa⟩ s))
 |succ j ih =>
  intro i h E Q hi s hE hq;obtain⟨c,xO⟩:∃c,cs[i]?=some c:=⟨_,aF (by omega)⟩;obtain⟨u,id,off,e1,e2,_,s⟩:=xP (P:=Tryz.prog) (F2 _ _ _).s xO aQ dP bS s;obtain⟨I,fN⟩:=hc c (aJ xO);have hv:=s.aC (k:=2) U (bp _ _);refine WP.loop (WP.has hE (zg U (zB U aK (by simp;omega) ?_)));refine zk 5 U (WP.block (zg U (zo U (bM (r:=.ptr id off) U U e1) (zl U e2 (zk 5 U ?_)))));by_cases h0:l=0
  .subst h0;have I:1<=c.length/\1+c.getD 0 0<=c.length:=I;have nh:c[0]?=some (c.getD 0 0):=by grind
   obtain⟨lS,bo,e3,e4⟩:=eU hv nh;generalize c.getD 0 0=z at I nh e3 e4;have hz:z<256:=hv.1 z (aJ nh);refine zB U dK (by simp) ?_;refine zk 2 U (zo U (aD U U U (bw aP hv)) (zC U dK (decide_eq_false (by omega)) ?_));refine zk 2 U (zo U (aD U U U (bw aP hv)) (zm U (zo U (bM (r:=.ptr lS bo) U U e3) (zl U e4 (zo U (cS U (by exact kU Tryz.underlying5 b_ ak)) ?_)))));refine zo U (aq (r:=.int .i64 ((1+z:Nat):Int)) U U (by rw[show((1+z:Nat):Int)=1+(z:Int) by omega];exact aL ak)) ?_;refine zC U aK (by simp;omega) ?_;refine zk 4 U (zC U cA (by simp) ?_);refine zk 6 U (zv (zj U (WP.skip (zr U (zb U (by exact aL ak) ?_)))));refine zm U (zv ?_);exact ih (i+1) _ _ Q (by omega) (s.del 2) ⟨U,U,U,U,U,U,U,aa⟩ hq
  .have I:4<=c.length:=by rw[iQ,ai h0] at I;exact I
   refine zC U dK (by simp;omega) ?_;refine zk 17 U (zB U cA (by simp;omega) ?_);refine zk 2 U (zo U (aD U U U (bw aP hv)) (zC U aK (by simp;omega) ?_));refine zk 2 U (zv (zj U (WP.skip (zr U (zb U (by exact aL ak) ?_)))));refine zm U (zv ?_);exact ih (i+1) _ _ Q (by omega) (s.del 2) ⟨U,U,U,U,U,U,U,aa⟩ hq
theorem z6 (hT:W told)(hR:mE told N B rv A pg)(cn:EI N B ε)(hn:n<N)(hp:bH (pg ε n) 204 0 l cs)(hc:∀c∈cs,iQ l c/\c.length<=225)(hl:l<=64)(s:Sat h (A ε::S)):
  Call ⟨Tryz.prog,told⟩ 77 [rv,.int .i64 (n:Int)] h λv h'=>∃x ah,v=.aX [.ptr x 0,.int .i64 0]/\EI N B ah/\Sm N ε ah/\Sat h' (aY x n l (pg ε n) cs::A ah::S):=by
 obtain⟨ty,u,f,rfl,hm,jm⟩:=hR.iface;have dx:=hp.fits;obtain⟨Qr,qQ,I,aeP⟩:=hp.reads;refine Call.of_wp (hT.free _ U) Tryz.func77 U U (zK 9 U (au.any U U U (OpR.invoke U U U hm U (jm (n:=(n:Int)) cn (by omega) (by omega) s)) ?_));rintro v h ⟨bv,ah,rfl,va,hs,s⟩;refine zk 10 U (zC U aG (U) (zk 6 U (zc U (H6 hT s (bh _ _) (by omega)) ?_)));rintro v h ⟨s,(⟨hg,rfl⟩|⟨hg,rfl⟩)⟩
 .rw[I,aeP];have s:=s.ff;refine zk 16 U (zC U aG (U) (zk 2 U (zC U aG (by decide) ?_)));refine zk 3 U (zC U cA (by simp;omega) ?_);refine zk 7 U (zc U (QS hT s (bp _ _) hp) ?_);rintro v h ⟨cv,us,rfl,s⟩;have s:=s.r8;refine zk 10 U (zC U aG (U) (zk 7 U (zo U (aD U U U (zZ (F2 _ _ _).s aQ s)) (zk 2 U (WP.block (TV hT hc (by omega) hl cs.length 0 _ _ _ (by omega) s ⟨U,U,U,U,U,U,U,aa⟩ λE' h' dY s' => ?_))))));have s:=s';have RJ:cv.cells=[cv]/\storable cv=true:=by
   rcases (s.BZ (j:=0) U (F2 _ _ _)).2 with⟨rfl,_⟩|⟨_,_,_,_,_,rfl,_⟩<;>exact⟨U,U⟩
  have TW:=(s.aC (k:=2) U (bp _ _)).cells;refine WP.has dY (zK 6 U (zo U (cO (r:=.agg (vf n l bv cv)) U (Q1 (s.aC (k:=2) U (bp _ _)) (s.BZ (j:=0) U (F2 _ _ _)))) (au.cj s U U U (fC U (by simp only[V.cells,l_,mL,RJ.2,TW.2];rfl)) ?_)));intro x h s;refine zk 3 U (WP.ret ⟨aa,_,U,?_⟩);have s:=(s.ae [1]).dM GB;exact⟨x,ah,U,va,hs,aU.2 ⟨bv,cv,us,s.ae [1,2,0,0]⟩⟩
 .rw[qQ] at hg;cases hg
end
def Cz (v:V)(us:List V): aE:=.xs λo:Option Nat=>match o with
 |none=>.an (.arr 1 v []) (.pu (us=[]))
 |some x=>.an (pt x (.cells us.length us false)) (.pu (v=.sl x 0 us.length (.rest 1 0)/\1<=us.length/\us.all storable=true))
section
variable {v:V} {i:TypeInfo}
theorem kY : cC (Cz v us) (.arr 1 v us):=λm r h=>by
 obtain⟨_|x,I,h2⟩:=h
 .have h2:us=[]:=h2;subst h2;exact I
 .obtain⟨rfl,h3,h4⟩:=h2;have I:m x=some (.cells us.length us false):=I;exact⟨h4,.inr ⟨x,us.length,.rest 1 0,us.length,[],U,by rw[fZ];exact I,by omega,by rw[b6,eF],U,U,U,U,h3⟩⟩
theorem EV (s:Sat h (Cz v us::S))(hn:1<=us.length): ∃x,v=.sl x 0 us.length (.rest 1 0)/\us.all storable=true/\Sat h (pt x (.cells us.length us false)::S):=by
 obtain⟨_|x,s⟩:=jv.1 s
 .have s:Sat h (aE.an (.arr 1 v []) (.pu (us=[]))::S):=s;obtain⟨_,_,_,_,_,I⟩:=s.at (k:=0) U;have I:us=[]:=I;subst I;simp at hn
 .have s:Sat h (aE.an (pt x (.cells us.length us false)) (.pu (v=.sl x 0 us.length (.rest 1 0)/\1<=us.length/\us.all storable=true))::S):=s;obtain⟨_,_,_,_,_,q1,q2,q3⟩:=s.at (k:=0) U;exact⟨x,q1,q3,s.dM λ_ _ h=>h.1⟩
theorem CA (hn:1<=us.length)(I:us.all storable=true)(s:Sat h (pt x (.cells us.length us false)::S)): Sat h (Cz (.sl x 0 us.length (.rest 1 0)) us::S) :=
 s.dM λ_ _ h=>⟨some x,h,U,hn,I⟩
theorem aeQ (hu:P.underlying t=some (.slice e)): binV P h .eql t ox oy .aZ .aZ=some (.bool true):=by simp only[binV,eqV,hu,gQ]
theorem aeR {cap:Cap}(hu:P.underlying t=some (.slice e)): binV P h .eql t ox oy (.sl id off n cap) .aZ=some (.bool false):=by simp only[binV,eqV,hu,gQ]
theorem bs0 (hu:P.underlying t=some (.slice e))(I:zeroT P e=some z)(hs:bq P e=some z.cells.length)(h1:Nat.ble 1 z.cells.length=true:=by rfl): buildSliceV P h t 0 []=some (.sl h.next 0 0 (.exact 0),h.new (.cells 0 [] false)):=by
 unfold buildSliceV;simp only[hu,hs,I];rw[show(Nat.beq z.cells.length z.cells.length&&Nat.ble (0*z.cells.length) 65536&&Nat.ble 1 z.cells.length)=true by rw[mc,h1,kg];rfl,ag];rfl
theorem acg (a:qZ (T.get h.tr) 1 v us)(hu:P.underlying t=some (.slice e))(I:bq P e=some 1): ∃v',sliceV P h t v (some us.length) none none=some v':=by
 rcases a.2 with⟨rfl,rfl⟩|⟨id,n,cap,N,rest,rfl,hg,q1,q2,q3,q4⟩
 .refine⟨.aZ,?_⟩;simp only[sliceV,hu,I,fy,dz,b6];rfl
 .rw[cH] at q1;subst q1;refine Option.isSome_iff_exists.1 ?_;cases cap with
  |exact c =>
   have q4:_/\us.length<=c:=q4;simp only[sliceV,hu,I,fy,dz];rw[show(Nat.ble us.length us.length&&Nat.ble us.length c)=true by simp;omega,ag];rfl
  |rest z alt =>
   have q4:z=1/\_:=q4;simp only[sliceV,hu,I,fy,dz];rw[show(Nat.beq z 1&&Nat.ble 1 1)=true by simp[q4.1],ag,show(Nat.ble us.length us.length&&(Nat.ble us.length us.length||Nat.ble us.length (fF h id 0 1)))=true by simp,ag];rfl
theorem TX {ds:List V}(hX:wY X 1 w ds)(s:Sat h (X::S))(hu:P.underlying t=some (.slice e))(hi:P.info? e=some i)(hz:zeroT P e=some z)(hk:i.size=1)(hb:i.bytes<=4096)(hl:z.cells.length=1)(gm:ds.length<=1073741824):
  ∃v' h',appendV P (h.new (.cells 0 [] false)) #[t,t] (.sl h.next 0 0 (.exact 0)) w=some (v',h')/\Sat h' (Cz v' ds::X::S):=by
 have s0:=s.new (.cells 0 [] false);have eG:=(s.jo (j:=0) U hX).1;obtain⟨n,hn,I⟩:=TD (s0.jo (j:=1) U hX);rw[cH] at hn;subst hn;unfold appendV;simp only[hu,hi,hz,hk,hl,I];rw[show(Nat.ble 1 1&&Nat.ble i.bytes 4096&&Nat.beq 1 1)=true by simp_all,ag];by_cases hm:ds.length=0
 .have:ds=[]:=iZ hm;subst this;refine⟨_,_,U,s0.dM λm r Ea=>⟨none,?_,U⟩⟩;exact⟨U,.inr ⟨h.next,0,.exact 0,0,[],U,Ea,by rfl,by rfl,U,by rfl,aH _⟩⟩
 .rw[fM hm,aT];have hg:lu (0+ds.length) i.bytes=true:=by
   have e3:(0+ds.length)*i.bytes<=(0+ds.length)*4096:=C3 _ hb;grind[ow]
  have hr:rdN (h.new (.cells 0 [] false)) h.next 0 (0*1)=some []:=by
   simp only[rdN,ja,dI];rfl
  have hle:Nat.ble (0+ds.length) 0=false:=by
   cases hq:Nat.ble (0+ds.length) 0 with
   |false=>rfl
   |true=>have:=aS.1 hq;omega
  simp only[hle,aT,hg,ag,hr];have e:j7 (h.new (.cells 0 [] false)) 1 [] ds (0+ds.length)=(.sl (h.new (.cells 0 [] false)).next 0 ds.length (.rest 1 0),(h.new (.cells 0 [] false)).new (.cells ds.length ds false)):=by
   simp only[j7,eW,cH,dL]
  rw[e];exact⟨_,_,U,CA (by omega) eG (s0.drop.new _)⟩
end
section
variable {told:cu} {v:V}
theorem mY (hT:W told)(s:Sat h (X::S))(hX:wY X 1 v us)(hl:us.length<=512:=by omega): Call ⟨Tryz.prog,told⟩ 48 [v] h λr h'=>Sat h' (Cz r us::X::S):=by
 obtain⟨i1,I,fH,pR⟩:=ry;have hm:=s.jo (j:=0) U hX;refine Call.of_wp (hT.free _ U) Tryz.func48 U U ?_;rcases hm.2 with⟨rfl,rfl⟩|⟨id,off,n,cap,N,row,rfl,hg,q1,q2,q3,q4⟩
 .skip;exact zK 8 U (zo U (aq (r:=.bool true) U U (aeQ aQ)) (zk 6 U (WP.ret ⟨aa,_,U,s.map λm r hs=>⟨λ_=>none,m,λ_=>.inl U,λ_ _ h=>(by cases h),PM.le_refl _,⟨none,⟨U,.inl ⟨U,U⟩⟩,U⟩,hs⟩⟩)))
 .skip;refine zK 8 U (zo U (aq (r:=.bool false) U U (aeR aQ)) (zk 5 U (au.any U U U (OpR.of (R:=λv h'=>v=.sl h.next 0 0 (.exact 0)/\h'=h.new (.cells 0 [] false)) (je U (bs0 aQ lK dP)) ⟨U,U⟩) ?_)))
  rintro v' h' ⟨rfl,rfl⟩;obtain⟨av,h2,sR,s2⟩:=TX (P:=Tryz.prog) hX s aQ I lK fH (by omega) U (by omega);refine zm U (au.any U U U (OpR.of (R:=λv h'=>v=av/\h'=h2) (iY U U sR) ⟨U,U⟩) ?_);rintro v' h ⟨rfl,rfl⟩;have s:=s2;exact zk 2 U (WP.ret ⟨aa,_,U,s⟩)
structure YH (told:cu): Prop where
 free:∀f,Nat.beq f 52=true->told f=none
theorem YH.base : YH uk:=⟨λf I=>by
 have:=beq_iff.1 I;subst this;rfl⟩
theorem aal (hT:YH told)(s:Sat h (.arr 1 v us::.arr 1 y [u]::S))(hl:us.length<=512): Call ⟨Tryz.prog,told⟩ 52 [v,.int .i64 (us.length:Int),y] h λr h'=>Sat h' (.arr 1 r (us++[u])::S):=by
 obtain⟨i1,I,fH,pR⟩:=ry;obtain⟨v1,SW⟩:=acg (P:=Tryz.prog) (s.BZ (j:=0) U (jg _ _ _)) aQ dP;refine Call.of_wp (hT.free _ U) zU U U (zK 8 U (zo U (bK (p:=some (.int .i64 (us.length:Int))) (q:=none) (m:=none) (p':=some us.length) (q':=none) (m':=none) U U U U (by rw[bN];rfl) U U SW) ?_));refine zk 4 U (zo U (aD U U U (s.fS (j:=1) (n:=1) U U (by decide) aQ)) ?_);refine zk 6 U (zC U dK (U) (zk 6 U (zo U (aD U U U (s.fS (j:=0) (n:=us.length) U (by rw[cH]) (by decide) aQ)) ?_)));refine zk 7 U (zB U dK (by simp) ?_);obtain⟨av,h2,sR,s2⟩:=iw (P:=Tryz.prog) s aQ I lK fH (by omega) U (by decide) (by simp;omega);refine zk 6 U (au.any U U U (OpR.of (R:=λv h'=>v=av/\h'=h2) (iY U U sR) ⟨U,U⟩) ?_);rintro v' h ⟨rfl,rfl⟩;have s:=s2.del 1;exact zk 2 U (WP.ret ⟨aa,_,U,s⟩)
structure WI (told:cu): Prop extends WB told where
 ins:told 52=some (qR Tryz.prog 52 GJ)
theorem aam (hT:WI told)(s:Sat h (Cz v us::pt x (.cells 1 [u] false)::S))(hu:storable u=true)(hi:i<us.length)(hl:us.length<=512):
  Call ⟨Tryz.prog,told⟩ 52 [v,.int .i64 (i:Int),.sl x 0 1 (.exact 1)] h λr h'=>Sat h' (Cz r (c8 i u us)::S):=by
 obtain⟨z,rfl,eG,s⟩:=EV s (by omega);have hz:T.get h.tr z=some (.cells us.length us false):=by
  obtain⟨m,r,h1,_,h3⟩:=s.at (k:=0) U;exact h1 _ _ h3
 have hx:T.get h.tr x=some (.cells 1 [u] false):=by
  obtain⟨m,r,h1,_,h3⟩:=s.at (k:=1) U;exact h1 _ _ h3
 have fG:x≠z:=λe=>s.ne e.symm;obtain⟨r,h3,h4⟩:=xD (P:=Tryz.prog) (f:=52) (mC:=GJ) (args:=[.sl z 0 us.length (.rest 1 0),.int .i64 (i:Int),.sl x 0 1 (.exact 1)]) (h:=h) (r:=(.sl h.next 0 (us.length+1) (.rest 1 0),(h.put z none).new (.cells (us.length+1) (c8 i u us) false)))
  (.inl ⟨z,x,us.length,i,us,u,U,hz,hx,hi,U⟩) λc w uQ hw=>aak uQ hz hx fG hi (by omega) (hw _ (by simp))
 have hr:r=(.sl h.next 0 (us.length+1) (.rest 1 0),(h.put z none).new (.cells (us.length+1) (c8 i u us) false)):=by
  rcases h4 with⟨x2,y2,n2,i2,qM,u2,I,g1,g2,g3,rfl⟩|⟨_,⟨x2,n2,t2,y2,I⟩|⟨y2,I⟩⟩
  .injection I with I e2;injection I with I _ e3 _;injection e2 with e2 e4;injection e4 with e4 _;injection e4 with e4 _ _ _;injection e2 with _ e2;subst I e4 e3;have e2:i=i2:=by omega
   subst e2;rw[hz] at g1;rw[hx] at g2;cases g1
   cases g2
   rfl
  .injection I with I e2;injection I with _ _ e3 _;injection e2 with e2 e4;injection e2 with _ e2;omega
  .exact absurd (congrArg List.head? I) (by simp)
 subst hr;refine⟨_,_,iS.told hT.ins zU U h3,?_⟩;have hlen:(c8 i u us).length=us.length+1:=ki (by omega);have s1:=(s.kill.new (.cells (us.length+1) (c8 i u us) false));have sL:(c8 i u us).all storable=true:=by
  rw[nG] at eG ⊢;intro a ha;simp only[c8,nH,gd] at ha;rcases ha with h1|rfl|h1
  .exact eG a (iM h1)
  .exact hu
  .exact eG a (i_ h1)
 have s2:Sat ((h.put z none).new (.cells (us.length+1) (c8 i u us) false)) (pt (h.put z none).next (.cells (c8 i u us).length (c8 i u us) false)::pt x (.cells 1 [u] false)::S):=by rw[hlen];exact s1
 have s3:=(CA (by omega) sL s2).del 1;rw[hlen] at s3;exact s3
theorem TY (hT:WI told)(s:Sat h (.arr 1 v us::.arr 1 y [u]::S))(hl:us.length<=512): Call ⟨Tryz.prog,told⟩ 52 [v,.int .i64 (us.length:Int),y] h λr h'=>Sat h' (.arr 1 r (us++[u])::S):=by
 have hm:=s.BZ (j:=0) U (jg _ _ _);obtain⟨v1,h1,⟨N,hN⟩,hR⟩:=aal (told:=uk) YH.base s hl;obtain⟨r,h3,h4⟩:=xD (P:=Tryz.prog) (f:=52) (mC:=GJ) (args:=[v,.int .i64 (us.length:Int),y]) (h:=h) (r:=(v1,h1)) (.inr ⟨⟨N,hN⟩,by
   rcases hm.2 with⟨rfl,rfl⟩|⟨id,n,cap,N,rest,rfl,hg,q1,_⟩
   .exact .inr ⟨y,U⟩
   .rw[cH] at q1;exact .inl ⟨id,n,cap,y,by rw[q1]⟩⟩) λc w I hw=>(callF_ok (C:=CB) (Du Ci AA N).1 AA hN I hw).1
 have hr:r=(v1,h1):=by
  rcases h4 with⟨x2,y2,n2,i2,qM,u2,e1,g1,g2,g3,rfl⟩|⟨hd,_⟩
  .obtain⟨e1,e2⟩:=List.cons.inj e1;obtain⟨e2,_⟩:=List.cons.inj e2;have e2:=(V.int.inj e2).2;subst e1;rcases hm.2 with⟨e,_⟩|⟨id,n,cap,N,rest,e,hg,q1,_⟩
   .cases e
   .cases e
    omega
  .obtain⟨a,b⟩:=iS.det hd ⟨N,hN⟩;exact Prod.ext a b
 subst hr;exact⟨_,_,iS.told hT.ins zU U h3,hR⟩
end
abbrev Fx := List (Nat×pz)
def jK (l:List (Nat×Nat)): List V:=l.flatMap λe=>[.ptr e.1 0,.int .i64 (e.2:Int)]
theorem lq : ∀(l:List (Nat×Nat)),(jK l).length=l.length*2:=by
 intro l;induction l with
 |nil=>rfl
 |cons e l I=>rw[jK,eE,aO];show 2+(jK l).length=_;rw[I,aW];omega
theorem L4 {a b:List (Nat×Nat)}: jK (a++b)=jK a++jK b:=nC
def nodsA (P:Int->List Nat): Nat->Fx->aE
 |_,[]=>pu True
 |l,e::t=>star [aY e.1 e.2.pg l (P e.2.pg) (bF e.2.ks),nodsA P (l+1) t]
def eT (fx:Fx): List (Nat×Nat):=(fx.map λe=>(e.1,e.2.i)).reverse
theorem rB {e:Nat×pz}{fx:Fx}: eT (e::fx)=eT fx++[(e.1,e.2.i)]:=by simp[eT]
section
variable {told:cu} {v:V} {k:List Nat}
theorem vG {P:Int->List Nat}{e:Nat×pz}{t:Fx}: Sat h (nodsA P l (e::t)::S)↔Sat h (aY e.1 e.2.pg l (P e.2.pg) (bF e.2.ks)::nodsA P (l+1) t::S):=cY
theorem s_ (hT:W told)(hR:mE told N B rv A pg)(cn:EI N B ε){m:Nat}{ky:Ky}(hc:cs[i]?=some (e_ m ky))(hm:m<N)(hN:N<=65536)(hp:bH (pg ε m) 204 0 l cs')(SD:∀c∈cs',iQ l c/\c.length<=225)(hl:l+1<=64)
 (s:Sat h (aY x n (l+1) b cs::A ε::S)):
  Call ⟨Tryz.prog,told⟩ 82 [.ptr x 0,rv,.int .i64 (i:Int)] h λv h'=>∃y ah,v=.aX [.ptr y 0,.int .i64 0]/\EI N B ah/\Sm N ε ah/\Sat h' (aY y m l (pg ε m) cs'::aY x n (l+1) b cs::A ah::S):=by
 refine Call.of_wp (hT.free _ U) Tryz.func82 U U (zK 10 U (zc U (DS hT hc (by omega) s) ?_))
 rintro v h ⟨rfl,s⟩
 refine zc U (z6 hT hR cn hm hp SD (by omega) (s.ae [1])) ?_
 rintro v h ⟨y,ah,rfl,I,hs,s⟩
 have s0:=s
 obtain⟨bv,cv,us,s⟩:=aU.1 s
 have s:=s.ae [5,0]
 obtain⟨Jo,z7,us2,s⟩:=aU.1 s
 have s:=s.ae [0,3]
 refine zk 8 U ?_
 have z0:=s
 refine WP.drawn [af,af,af,af,af,af,af,af,af,af,af,af,af,af] U (by kernel_rfl) (by kernel_rfl) ?_
 refine zM U (aB.xx U U U U (aq U U dK) (U) (zM U (zM U (zN U (zF U (ew _ _) (zL U (s.ld (k:=1) U bP U) (zM U (zN U (zF U (ew _ _) (zL U (s.ld (k:=0) U bP U) (zO U (aq U U (by exact dV ak)) ?_)))))))))))
 refine aB.rW U U U U (aq U U aG) (by simp) ?_
 refine zO U (oT U U) ?_
 refine aB.nil ⟨⟨aa,aa,aa,aa,aa,aa,aa,aa,aa,aa,aa,aa,aa,aa,aa⟩,?_⟩
 exact zK 9 U (WP.ret ⟨aa,_,U,y,ah,U,I,hs,s0.ae [0,1]⟩)
theorem WR : ∃i,Tryz.prog.info? 94=some i/\i.size=2/\i.bytes<=4096 :=
 ⟨_,(show Tryz.prog.info? 94=some ((Tryz.prog.info? 94).getD default) by kernel_rfl),by kernel_rfl,rG (by kernel_rfl)⟩
theorem L5 {wv:V}{c:List (Nat×Nat)}(hl:c.length<=200)(s:Sat h (.arr 2 wv (jK c)::S)): ∃I h1 w h2,buildSliceV Tryz.prog h 89 1 [(0,.agg [.ptr x 0,.int .i64 (i:Int)])]=some (I,h1)/\appendV Tryz.prog h1 #[89,89] wv I=some (w,h2)/\Sat h2 (.arr 2 w (jK (c++[(x,i)]))::S):=by
 obtain⟨i1,c9,fH,pR⟩:=WR;obtain⟨I,h1,e1,s1⟩:=kV (P:=Tryz.prog) (k:=2) (x:=.agg [.ptr x 0,.int .i64 (i:Int)]) s eS Qa lM U (by decide) (by decide) U U;obtain⟨w,h2,e2,s2⟩:=iw (s1.ae [1,0]) eS c9 Qa fH pR U (by decide) (by rw[lq];simp[V.cells];omega);have s2:=s2.del 1;exact⟨I,h1,w,h2,e1,e2,by rw[L4];exact s2⟩
noncomputable def tdL : Code:=dm [1,1,1,1,0,0,0] ((Tryz.f74.body).getD .skip)
theorem TZ (hT:W told)(hR:mE told N B rv A pg)(hN:N<=65536){P:Int->List Nat}(hL:L<=64){g:FuncId}{K:aE}
 (wM:∀ {x n l:Nat} {b:List Nat} {ks:List fo} {lo:Ky} {hi:Option Ky} {h:H} {S:List aE},Sep lo hi ks->ks.length<=512->1<=l->l<=64->Sat h (aY x n l b (bF ks)::K::S) ->
   Call ⟨Tryz.prog,told⟩ g (.ptr x 0::caps) h λv h'=>∃i:Nat,v=.int .i64 (i:Int)/\Ch ks i/\i<ks.length/\Sat h' (aY x n l b (bF ks)::K::S)):
  ∀(l x n:Nat) (lo:Ky) (hi:Option Ky) (eL eR:List En) (pO:List Nat) (cs:List (List Nat)) (es:List En) (ps:List Nat) (fx:Fx) (wv:V) (ε:bA) (h:H) (E:List (Nat×V)) (S:List aE) (Q:Ex->List (Nat×V)->H->Prop),
  g_ F P L r (fx.map (·.2)) l lo hi n eL eR pO->Nv F P l lo hi cs es ps->bH (P n) 204 0 l cs->(fx.map (·.2)≠[]->F l cs)->EI N B ε->pg ε=P->(∀m∈ps,m<N)->fx.length+l=L->(∀e∈fx,Ch e.2.ks e.2.i) ->
  Sat h (aY x n l (P n) cs::.arr 2 wv (jK (eT fx))::nodsA P (l+1) fx::A ε::K::S)->Has E [(0,rv),(2,.fn (.func g) [] caps),(8,.ptr x 0),(10,wv)] ->
  (∀E' h' x' n' fX eO ni ji iT es' I OZ ah,g_ F P L r (I.map (·.2)) 0 fX eO n' ni ji iT->kj fX eO es'->bH (P n') 204 0 0 (es'.map eB)->(I.map (·.2)≠[]->F 0 (es'.map eB))->EI N B ah->Sm N ε ah->(∀e∈I,Ch e.2.ks e.2.i)->ni++es'++ji=eL++es++eR->(iT++[n']).Perm (pO++n::ps)->I.length=L ->
   Has E' [(8,.ptr x' 0),(10,OZ)]->Sat h' (aY x' n' 0 (P n') (es'.map eB)::.arr 2 OZ (jK (eT I))::nodsA P 1 I::A ah::K::S)->Q (.exit 0) E' h')->WP ⟨Tryz.prog,told⟩ 56 (.loop tdL) E h Q:=by
 intro l;induction l with
 |zero =>
  intro x n lo hi eL eR pO cs es ps fx wv ε h E S Q nP hN0 hp hF cn eA nZ hlen hCh s hE hq;obtain⟨rfl,jX,rfl⟩:=hN0;have s0:=s;obtain⟨bv,cv,us,s⟩:=aU.1 s;refine WP.loop (WP.has hE (zK 5 U (zY s 0 ew bP U (zC U cA (by simp) ?_))));exact zk 2 U (WP.exit (hq _ _ x n lo hi eL eR pO es fx wv ε nP jX hp hF cn (Sm.refl N ε) hCh U (List.Perm.refl _) (by omega) ⟨U,U,aa⟩ s0))
 |succ l ih =>
  intro x n lo hi eL eR pO cs es ps fx wv ε h E S Q nP hN0 hp hF cn eA nZ hlen hCh s hE hq;obtain⟨ks,rfl,hS,rfl,rfl,Q4⟩:=hN0;have dx:=hp.fits;rw[dn] at dx;have qa:1<=ks.length:=by
   rcases oL ks.length with q|q
   .exact absurd (iZ q) hS.ne
   .exact q
  have s0:=s;obtain⟨bv,cv,us,s⟩:=aU.1 s;refine WP.loop (WP.has hE (zK 5 U (zY s 0 ew bP U (zB U cA (by simp) ?_))));refine zk 3 U (WP.block (zK 5 U (zY s 0 cP gx U (zo U (aD U U U (gT aQ s)) ?_))));rw[dn];refine zC U dK (decide_eq_false (by omega)) ?_;refine zk 7 U (zc U (wM hS (by omega) (by omega) (by omega) (s0.ae [0,3])) ?_);rintro v h ⟨i,rfl,hc,fH,s⟩;have s:=s.ae [2,0,1,1,0];dsimp only[aM,bringA,getA] at s;obtain⟨kk,sZ⟩:∃kk,ks[i]?=some kk:=⟨_,aF fH⟩;obtain⟨cs',hN',hF',uI⟩:=Q4 i kk sZ;have sr:=gX sZ;have mh:(eT fx).length<=200:=by rw[eT,jt,cf];omega
  obtain⟨xv,h1,w,h2,e1,e2,s2⟩:=L5 (x:=x) (i:=i) mh s;refine zk 7 U (zo U (cO (r:=.agg [.ptr x 0,.int .i64 (i:Int)]) U (by rw[abH];rfl)) ?_);refine au.any U U U (OpR.of (R:=λv h'=>v=xv/\h'=h1) (je U e1) ⟨U,U⟩) ?_;rintro xv h1 ⟨rfl,rfl⟩;refine au.any U U U (OpR.of (R:=λv h'=>v=w/\h'=h2) (iY U U e2) ⟨U,U⟩) ?_;rintro w h2 ⟨rfl,rfl⟩;have s:=s2.ae [1,2,0,0,0];dsimp only[bringA,getA,aM] at s;refine zk 7 U ?_;have yb:kk∈ks:=aJ sZ;have T0:∀m∈cL kk,m<N:=λm hm=>nZ m (List.mem_flatMap.2 ⟨kk,yb,hm⟩);refine zc U (s_ hT hR cn sr (T0 kk.pg a_) hN (by rw[eA];exact uI) (λc hc=>⟨(hN'.cells c hc).1,(hN'.cells c hc).2.1⟩) (by omega) s) ?_;rintro v h ⟨y,ah,rfl,va,hs,s⟩;refine zk 5 U (zv (zg U (zm U (zh U (aq U U aG) (U) (zv (zj U (WP.skip ?_)))))));have aeS:pg ah=P:=by rw[<-eA];funext m;exact hR.same hs m
  have aeT:=nP.down hS hF hp Q4 sZ;rw[eA] at s;have s:=s.ae [0,2,0,1,0];have s:=s.ae [2,2];have s:Sat h (nodsA P (l+1) ((x,⟨n,ks,i⟩)::fx)::_):=(vG (e:=(x,⟨n,ks,i⟩)) (t:=fx)).2 s;have s:=s.ae [1,1,0];rw[<-rB (e:=(x,⟨n,ks,i⟩))] at s;refine ih y kk.pg (loK lo ks i) (cT hi ks i) _ _ _ cs' kk.es kk.ps ((x,⟨n,ks,i⟩)::fx) _ ah _ _ S Q aeT hN' uI (λ_=>hF') va aeS (λm hm=>T0 m (bk _ hm)) (by rw[aW];omega) (λe he => ?_) s ⟨U,U,U,U,aa⟩ (λE' h' x' n' fX aeU ni ji iT es' I OZ mw q1 q2 q3 q4 q5 q6 q7 q8 q9 pE dY s' => ?_)
  .rcases List.mem_cons.1 he with rfl|he
   .exact hc
   .exact hCh e he
  .refine hq E' h' x' n' fX aeU ni ji iT es' I OZ mw q1 q2 q3 q4 q5 (hs.trans q6) q7 ?_ ?_ pE dY s'
   .rw[q8,sY sZ];simp[dN]
   .refine q9.trans ?_;rw[vF,sY sZ,lY];intro z;simp only[cL,lZ,l7,fJ];omega
theorem O0 (hT:W told)(hR:mE told N B rv A pg)(hN:N<=65536){P:Int->List Nat}(hL:L<=64){g:FuncId}{K:aE}
 (wM:∀ {x n l:Nat} {b:List Nat} {ks:List fo} {lo:Ky} {hi:Option Ky} {h:H} {S:List aE},Sep lo hi ks->ks.length<=512->1<=l->l<=64->Sat h (aY x n l b (bF ks)::K::S) ->
   Call ⟨Tryz.prog,told⟩ g (.ptr x 0::caps) h λv h'=>∃i:Nat,v=.int .i64 (i:Int)/\Ch ks i/\i<ks.length/\Sat h' (aY x n l b (bF ks)::K::S))(hv:Nv F P L lo hi cs es ps)(hp:bH (P r) 204 0 L cs)(cn:EI N B ε)(I:pg ε=P)(hr:r<N)(nZ:∀m∈ps,m<N)(jG:lo=[])(GH:hi=none)(s:Sat h (A ε::K::S)):
  Call ⟨Tryz.prog,told⟩ 74 [rv,.int .i64 (r:Int),.fn (.func g) [] caps] h λv h'=>∃w x n lo hi eL eR pO es' fx ah,v=.aX [w,.int .i64 0]/\g_ F P L r (fx.map (·.2)) 0 lo hi n eL eR pO/\kj lo hi es'/\bH (P n) 204 0 0 (es'.map eB)/\(fx.map (·.2)≠[]->F 0 (es'.map eB))/\EI N B ah/\Sm N ε ah/\(∀e∈fx,Ch e.2.ks e.2.i) /\
   eL++es'++eR=es/\(pO++[n]).Perm (r::ps)/\fx.length=L/\Sat h' (.arr 2 w (jK (eT fx++[(x,0)]))::aY x n 0 (P n) (es'.map eB)::nodsA P 1 fx::A ah::K::S):=by
 subst jG GH;refine Call.of_wp (hT.free _ U) Tryz.func74 U U (zK 9 U (zc U (z6 hT hR cn hr (by rw[I];exact hp) (λc hc=>⟨(hv.cells c hc).1,(hv.cells c hc).2.1⟩) hL s) ?_));rintro v h ⟨x,c_,rfl,kD,ej,s⟩;rw[I] at s;have gY:pg c_=P:=by rw[<-I];funext m;exact hR.same ej m
 refine zk 10 U (zC U aG (U) (zk 8 U (WP.block ?_)));have s:=((s.mq (k:=2)).gJ (φ:=True) aa).ae [2,1,0];have s:Sat h (aY x r L (P r) cs::.arr 2 .aZ (jK (eT []))::nodsA P (L+1) []::_):=s;refine TZ hT hR hN (g:=g) (caps:=caps) (Ch:=Ch) hL wM L x r [] none [] [] [] cs es ps [] .aZ c_ _ _ _ _ ⟨U,U,U,U,U,U,U⟩ hv hp (λq=>absurd U q) kD gY nZ (by simp) (λe he=>by cases he) s ⟨U,U,U,U,aa⟩ λE' h' x' n' fX eO ni ji iT es' fx' OZ ah q1 q2 q3 q4 q5 q6 q7 q8 q9 pE dY s' => ?_;have s:=s';refine WP.has dY ?_;have s:=s.ae [1];obtain⟨xv,h1,w,h2,e1,e2,s2⟩:=L5 (x:=x') (i:=0) (by rw[eT,jt,cf];omega) s;refine zK 4 U (zo U (cO (r:=.agg [.ptr x' 0,.int .i64 ((0:Nat):Int)]) U (by rw[abH];rfl)) ?_);refine au.any U U U (OpR.of (R:=λv h'=>v=xv/\h'=h1) (je U e1) ⟨U,U⟩) ?_;rintro xv h1 ⟨rfl,rfl⟩;refine au.any U U U (OpR.of (R:=λv h'=>v=w/\h'=h2) (iY U U e2) ⟨U,U⟩) ?_;rintro w h2 ⟨rfl,rfl⟩;exact zk 3 U (WP.ret ⟨aa,_,U,w,x',n',fX,eO,ni,ji,iT,es',fx',ah,U,q1,q2,q3,q4,q5,ej.trans q6,q7,by simpa using q8,by simpa using q9,pE,s2⟩)
theorem g_.way {P:Int->List Nat}{k:Ky}: ∀ {fs:List pz} {l:Nat} {lo:Ky} {hi:Option Ky} {n:Nat} {eL eR:List En} {pO:List Nat},g_ F P L r fs l lo hi n eL eR pO->(∀f∈fs,Way f.ks k f.i)->Bd lo hi k:=by
 intro fs;induction fs with
 |nil=>rintro l lo hi n eL eR pO ⟨_,rfl,rfl,_⟩ _;exact⟨by cases k with|nil=>exact nI _|cons x t=>exact oQ (vK _ _),λb I=>by cases I⟩
 |cons f fs ih =>
  rintro l lo hi n eL eR pO ⟨fX,eO,ni,ji,iT,kk,h1,h2,rfl,rfl,rfl,_⟩ hw;exact(hw f a_).bd (ih h1 λg hg=>hw g (bk _ hg))
theorem ach (hT:WB told)(hX:cC X (cK kv k)){kb:Nat}(hS:Sep lo hi ks)(hlen:ks.length<=512)(I:1<=l)(iL:l<=64)(s:Sat h (aY x n l b (bF ks)::star [pt kb (.cells 1 [kv] false),X]::S)):
  Call ⟨Tryz.prog,told⟩ 115 [.ptr x 0,.ptr kb 0] h λv h'=>∃i:Nat,v=.int .i64 (i:Int)/\Way ks k i/\i<ks.length/\Sat h' (aY x n l b (bF ks)::star [pt kb (.cells 1 [kv] false),X]::S):=by
 have hW:=hT.w;have s:=cY.1 (s.ae [1]);have s:Sat h (pt kb (.cells 1 [kv] false)::X::aY x n l b (bF ks)::S):=s;refine Call.of_wp (hW.free _ U) Tryz.func115 U U (zK 7 U (zy s 0 bS U (zc U (acd hT hX hS hlen I iL (s.ae [2,1])) ?_)));rintro v h ⟨i,rfl,hw,s⟩;refine zk 2 U (WP.ret ⟨aa,_,U,?_⟩);have s:=s.ae [2,1,0];have s:Sat h (star [pt kb (.cells 1 [kv] false),X]::_):=cY.2 s;exact⟨i,U,hw,hw.lt,s.ae [1]⟩
theorem J4 (hT:WB told)(hR:mE told N B rv A pg)(hN:N<=65536){P:Int->List Nat}(hL:L<=64)(hX:cC X (cK kv k))(hv:Nv F P L [] none cs es ps)(hp:bH (P r) 204 0 L cs)(cn:EI N B ε)(eA:pg ε=P)(hr:r<N)(nZ:∀m∈ps,m<N)(s:Sat h (A ε::X::S)):
  Call ⟨Tryz.prog,told⟩ 45 [rv,.int .i64 (r:Int),kv] h λv h'=>∃w x n lo hi eL eR pO es' fx ah,v=.aX [w,.int .i64 0]/\g_ F P L r (fx.map (·.2)) 0 lo hi n eL eR pO/\kj lo hi es'/\bH (P n) 204 0 0 (es'.map eB)/\(fx.map (·.2)≠[]->F 0 (es'.map eB))/\EI N B ah/\Sm N ε ah/\Bd lo hi k /\
   eL++es'++eR=es/\(pO++[n]).Perm (r::ps)/\fx.length=L/\Sat h' (.arr 2 w (jK (eT fx++[(x,0)]))::aY x n 0 (P n) (es'.map eB)::nodsA P 1 fx::A ah::X::S):=by
 have hW:=hT.w;have I:=s.aC (k:=1) U hX;refine Call.of_wp (hW.free _ U) Tryz.func45 U U (zg U (au.cj s U U U (fC U (by simp only[I.cells.1,l_,mL,I.cells.2];rfl)) ?_));intro kb h s;rw[I.cells.1] at s;have s:=s.ae [0,1,0];have s:Sat h (star [pt kb (.cells 1 [kv] false),X]::_):=cY.2 s;refine zk 7 U (zo U (JT U U) (zc U (O0 hW hR hN (Ch:=λks i=>Way ks k i) hL (λhS hlen wL iL s=>ach hT hX hS hlen wL iL s) hv hp cn eA hr nZ U U (s.ae [1])) ?_));rintro v h ⟨w,x,n,lo,hi,eL,eR,pO,es',fx,ah,rfl,q1,q2,q3,q4,q5,q6,q7,q8,q9,pE,s⟩;refine zk 5 U (WP.ret ⟨aa,_,U,?_⟩);have s:=cY.1 (s.ae [4]);have s:=s.ae [2,2,2,2,1];refine⟨w,x,n,lo,hi,eL,eR,pO,es',fx,ah,U,q1,q2,q3,q4,q5,q6,q1.way λf hf => ?_,q8,q9,pE,s.del 5⟩;obtain⟨e,he,rfl⟩:=List.mem_map.1 hf;exact q7 e he
end
def gq (es:List En)(k:Ky): Option Ky:=(es.find? λe=>decide (e.1=k)).map (·.2)
section
variable {eL eR:List En} {k:Ky}
theorem xQ (h:∀e∈es,e.1≠k): gq es k=none:=by
 unfold gq;rw[List.find?_eq_none.2 λe he=>by simpa using h e he];rfl
theorem EW : gq (eL++es) k=(gq eL k).or (gq es k):=by
 unfold gq;rw[Hp];cases eL.find? λe=>decide (e.1=k)<;>rfl
theorem Il {e:En}(h:(es.map (·.1)).Nodup)(he:es[i]?=some e)(hk:e.1=k): gq es k=some e.2:=by
 unfold gq;have:es.find? (λe=>decide (e.1=k))=some e:=by
  induction es generalizing i with
  |nil=>simp at he
  |cons a t ih =>
   simp only[gB,oO] at h;rw[List.find?_cons];cases i with
   |zero =>
    simp only[jN,aA] at he;subst he;simp[hk]
   |succ i =>
    simp only[oJ] at he;have I:a.1≠k:=λq=>h.1 (by rw[q,<-hk];exact oK (aJ he));simp only[I,yJ];exact ih h.2 he
 rw[this];rfl
theorem Ej.none (h:Ej es k i)(hs:kj lo hi es)(hn:sameE es k i=false): gq es k=none:=by
 refine xQ λe he q => ?_;obtain⟨j,I⟩:=List.mem_iff_getElem?.1 he;by_cases h1:j<i
 .have:=h.lo j e I h1;rw[q] at this;exact absurd this (l9 _)
 .rcases C6 (tD h1) with h2|rfl
  .obtain⟨d,hd⟩:∃d,es[i]?=some d:=⟨_,aF (by have:=(List.getElem?_eq_some_iff.1 I).1;omega)⟩;have h3:=h.hi i d hd (aH _);have h4:=hs.get hd I h2;rw[q] at h4;exact absurd h4 (List.not_lt.2 h3)
  .simp only[sameE,I,q,Dg] at hn;cases hn
theorem EX (I:∀e∈eL,e.1<k)(h2:∀e∈eR,k<e.1): gq (eL++es++eR) k=gq es k:=by
 rw[EW,EW,xQ (es:=eL) (λe he q=>absurd (q ▸ I e he) (l9 _)),xQ (es:=eR) (λe he q=>absurd (q ▸ h2 e he) (l9 _))];cases gq es k<;>rfl
theorem g_.side {P:Int->List Nat}{fs:List pz}{pO:List Nat}(h:g_ F P L r fs l lo hi n eL eR pO)(hb:Bd lo hi k): (∀e∈eL,e.1<k)/\∀e∈eR,k<e.1:=by
 obtain⟨h1,h2⟩:=h.bd;refine⟨λe he => ?_,λe he => ?_⟩
 .exact Std.lt_of_lt_of_le (h1 e he) hb.1
 .obtain⟨b,I,ob⟩:=h2 e he;exact Std.lt_of_lt_of_le (hb.2 b I) ob
theorem EY (h:sameE es k i=true): ∃e,es[i]?=some e/\e.1=k:=by
 unfold sameE at h;cases q:es[i]? with
 |none=>rw[q] at h;cases h
 |some e=>rw[q] at h;exact⟨e,U,rG h⟩
theorem DT (e:En): (eB e).drop (1+(eB e).getD 0 0)=e.2:=by
 simp[eB,Nat.add_comm 1]
theorem kj.nodup (h:kj lo hi es): (es.map (·.1)).Nodup:=by
 have:=h.jZ;rw[NH,List.pairwise_map];exact this.imp λh q=>absurd (q ▸ h) (l9 _)
end
section
variable {c:List (Nat×Nat)}
theorem w6 (hu:P.underlying t=some (.slice e))(p_:bq P e=some 2)(I:c[j]?=some (x,i))(s:Sat h (.arr 2 w (jK c)::S)):
  ∃id off,indexAddrV P t w (.int .i64 (j:Int))=some (.ptr id off)/\(∀t',isAggT P t'=some false->loadV P h t' (.ptr id off)=some (.ptr x 0))/\∀t',isAggT P t'=some false->loadV P h t' (.ptr id (off+1))=some (.int .i64 (i:Int)):=by
 have I4:=(List.getElem?_eq_some_iff.1 I).1;have hg:∀ {c:List (Nat×Nat)} {j:Nat},c[j]?=some (x,i)->((jK c).drop (j*2)).take 2=[.ptr x 0,.int .i64 (i:Int)]:=by
  intro c;induction c with
  |nil=>simp
  |cons a t ih =>
   intro j I;cases j with
   |zero =>
    simp only[jN,aA] at I;subst I;rfl
   |succ j =>
    rw[show jK (a::t)=[.ptr a.1 0,.int .i64 (a.2:Int)]++jK t from U,show(j+1)*2=2+j*2 by omega,<-vN];exact ih I
 obtain⟨id,off,e1,e2⟩:=aev (P:=P) (t:=t) (e:=e) (i:=j) (s.BZ (j:=0) U (jg _ _ _)) (by rw[lq];omega) (by decide) hu p_;rw[hg I] at e2;exact⟨id,off,e1,λt' ht=>e2 0 _ t' U ht,λt' ht=>e2 1 _ t' U ht⟩
end
section
variable {told:cu} {v:V} {k:List Nat}
theorem aan (hT:WB told)(hR:mE told N B rv A pg)(hN:N<=65536){P:Int->List Nat}(hL:L<=64)(hX:cC X (cK kv k))(hk:1<=k.length/\k.length<=96)(hv:Nv F P L [] none cs es ps)(hp:bH (P r) 204 0 L cs)(cn:EI N B ε)(eA:pg ε=P)(hr:r<N)(I:∀m∈ps,m<N)(s:Sat h (A ε::X::S)):
  Call ⟨Tryz.prog,told⟩ 17 [rv,.int .i64 (r:Int),kv] h λv h'=>∃ah,EI N B ah/\Sm N ε ah/\match gq es k with
   |none=>v=.aX [.aZ,.bool false,.int .i64 0]/\Sat h' (A ah::X::S)
   |some val=>∃bv,v=.aX [bv,.bool true,.int .i64 0]/\Sat h' (bf bv val::A ah::X::S):=by
 have hW:=hT.w;refine Call.of_wp (hW.free _ U) Tryz.func17 U U (zK 10 U (zc U (ET hW (s.ae [1]) hX) ?_));rintro v h' ⟨rfl,rfl⟩;rw[dZ hk];refine zo U (eo U U) (zk 8 U (zc U (J4 hT hR hN hL hX hv hp cn eA hr I s) ?_));rintro v h ⟨w,x,n,lo,hi,eL,eR,pO,es',fx,ah,rfl,q1,q2,q3,q4,q5,q6,q7,q8,q9,pE,s⟩;refine zk 10 U (zC U aG (U) ?_);have uK:(eT fx).length=L:=by rw[eT,jt,cf,pE]
 have mh:(eT fx++[(x,0)]).length=L+1:=by rw[aO,uK];rfl
 obtain⟨id,off,e1,e2,_⟩:=w6 (P:=Tryz.prog) (j:=L) (x:=x) (i:=0) eS lM (by rw[hU (by omega),uK,gK];rfl) s;refine zk 7 U (zo U (aD U U U (s.fS (j:=0) (n:=L+1) U (by rw[lq,mh]) (by decide) eS)) ?_);refine zo U (aq (r:=.int .i64 (L:Int)) U U (by rw[show((L:Nat):Int)=((L+1:Nat):Int)-1 by omega];exact dV ak)) ?_;refine zo U (bM (r:=.ptr id off) U U e1) (zf U (jx _ _) (zl U (e2 _ fD) (zk 6 U (zc U (AP hT hX q2 (by have:=q3.fits;rw[cf] at this;omega) (s.ae [1,3])) ?_))));rintro v h ⟨i,rfl,hl,s⟩;obtain⟨ej,j3⟩:=q1.side q7;rw[<-q8,EX ej j3];cases hq:sameE es' k i with
 |false =>
  rw[hl.none q2 hq];exact zk 10 U (zo U (eo U U) (zk 8 U (WP.ret ⟨aa,_,U,ah,q5,q6,U,(s.ae [4,1]).del 4 |>.del 3 |>.del 2⟩)))
 |true =>
  obtain⟨e,he,xM⟩:=EY hq;rw[Il q2.nodup he xM];obtain⟨c1,c2,c3⟩:=we q2 he;refine zk 10 U (zo U (eo U U) (zk 7 U (zc U (DR hW c1 c2 c3 s) ?_)));rintro bv h s;rw[DT] at s;refine zc U (si hW s (bp _ _) (by have:=(q2.sz e (aJ he)).2.2;omega)) ?_;intro r h s;exact zk 4 U (WP.ret ⟨aa,_,U,ah,q5,q6,r,U,(s.ae [0,5,2]).del 6 |>.del 5 |>.del 4 |>.del 3⟩)
end
theorem aci (M:List Nat): ∀N:Nat,(∀j,j<N->bt M j=true)\/∃lo,lo<N/\bt M lo=false/\∀j,j<lo->bt M j=true:=by
 intro N;induction N with
 |zero=>exact .inl λj hj=>absurd hj (vL _)
 |succ N I =>
  rcases I with I|⟨lo,h1,h2,h3⟩
  .cases hb:bt M N with
   |true =>
    refine .inl λj hj => ?_;rcases C6 (Nat.le_of_lt_succ hj) with q|rfl
    .exact I j q
    .exact hb
   |false=>exact .inr ⟨N,tC N,hb,I⟩
  .exact .inr ⟨lo,by omega,h2,h3⟩
theorem fU.frame {p p':Int->List Nat}(h:fU n R M p)(I:p' 0=p 0)(h1:p' 1=p 1): fU n R M p' :=
 ⟨by rw[I];exact h.head,h.rl,by rw[h1];exact h.marks,h.ml,h.n1,h.n2,h.own,h.hi⟩
section
variable {told:cu} {p:Nat} {v:V}
theorem CC (hT:W told)(hB:B<=2000)(cn:EI N B ε)(hw:NW N now)(hp:fU N R M (pgG now ε))(ht:jA N M ps)(s:Sat h (GA g a p q r data aR now ε::S)):
  Call ⟨Tryz.prog,told⟩ 100 [.ptr g 0] h λv h'=>∃ah aN,EI N B ah/\Sm N ε ah/\NW N aN/\aN.length<=now.length+2/\Sat h' (GA g a p q r data aR aN ah::S) /\
   ((v=.aX [.int .i64 0,.int .i64 7]/\aN=now/\N<=ps.length+2)\/∃(z:Nat) (M':List Nat),v=.aX [.int .i64 (z:Int),.int .i64 0]/\2<=z/\z<N/\z∉ps/\fU N R M' (pgG aN ah)/\jA N M' (z::ps)/\∀m,m≠1->m≠(z:Int)->pgG aN ah m=pgG now ε m):=by
 rcases aci M N with I|⟨lo,I,h2,h3⟩
 .exact(QZ hT hB cn hw hp I s).mono λv h' ⟨ah,e,a1,a2,a3⟩=>⟨ah,now,a1,a2,hw,by omega,a3,.inl ⟨e,U,tD λcq=>by
   obtain⟨lo,g1,g2,_⟩:=ht.low cq;rw[I lo g1] at g2;cases g2⟩⟩
 .have h4:=ht.bits lo I;rw[h2] at h4;have h5:=of_decide_eq_false h4.symm;have h6:2<=lo:=by omega
  have h7:lo∉ps:=λq=>h5 (.inr q);have qu:=hp.n2;have Gk:=hp.ml;refine(TP hT hB cn hw hp I h2 h3 s).mono λv h' ⟨ah,aN,e,a1,a2,a3,a4,a5,a6,_,_,a7⟩=>⟨ah,aN,a1,a2,a3,a4,a7,.inr ⟨lo,GF M lo,e,h6,I,h7,a5,ht.more I h6 h7 λj => ?_,a6⟩⟩;rw[YC (by omega)];by_cases hj:j=lo
  .simp[hj]
  .simp[hj]
theorem WU (hT:W told)(hB:B<=2000)(cn:EI N B ε)(hw:NW N now)(hp:fU N R M (pgG now ε))(ht:jA N M ps)(s:Sat h (GA g a p q r data aR now ε::S)):
  Call ⟨Tryz.prog,told⟩ 33 [.ptr g 0] h λv h'=>∃ah aN,EI N B ah/\Sm N ε ah/\NW N aN/\aN.length<=now.length+3/\Sat h' (GA g a p q r data aR aN ah::S) /\
   ((v=.aX [.int .i64 0,.int .i64 7]/\aN=now/\N<=ps.length+2)\/∃(z:Nat) (M':List Nat),v=.aX [.int .i64 (z:Int),.int .i64 0]/\2<=z/\z<N/\z∉ps/\fU N R M' (pgG aN ah)/\jA N M' (z::ps)/\fh (pgG aN ah z) 204 0 0 []/\∀m,m≠1->m≠(z:Int)->pgG aN ah m=pgG now ε m):=by
 refine Call.of_wp (hT.free _ U) Tryz.func33 U U (zK 8 U (zc U (CC hT hB cn hw hp ht s) ?_));rintro v h ⟨c_,I,b1,b2,b3,b4,s1,(⟨rfl,rfl,vD⟩|⟨z,M',rfl,c1,c2,c3,c4,c5,c6⟩)⟩
 .skip;refine zk 10 U (zB U aG (by decide) ?_);exact zk 8 U (WP.ret ⟨aa,_,U,c_,_,b1,b2,b3,by omega,s1,.inl ⟨U,U,vD⟩⟩)
 .skip;refine zk 10 U (zC U aG (U) (zk 8 U ?_));have s:=((s1.mq (k:=1)).gJ (φ:=True) aa).ae [2,1,0];have s:Sat h (GA g a p q r data aR I c_::.arr 1 .aZ []::dy [] []::S):=s;refine zc U (mX hT hB b1 b3 c2 (jg _ _ _).s (by decide) (by decide) s) ?_;rintro v h ⟨iJ,b',rfl,d1,d2,d3,d4,s⟩;refine zk 3 U (WP.ret ⟨aa,_,U,?_⟩);have IP:∀m:Int,pgG I iJ m=pgG I c_ m:=λm=>by rw[gN d2]
  refine⟨iJ,_,d1,b2.trans d2,d3,?_,(s.del 2).del 1,.inr ⟨z,M',U,c1,c2,c3,c4.frame ?_ ?_,c5,?_,λm h1 h2 => ?_⟩⟩
  .have:=gz (i:=(z:Int)) (b:=b') (now:=I);omega
  .rw[eY,ai (by omega),IP]
  .rw[eY,ai (by omega),IP]
  .rw[eY,ay U];exact d4
  .rw[eY,ai (λe=>h2 e.symm),IP];exact c6 m h1 h2
end
section
variable {f:V->α->aE} {a b:PM}
theorem CD : ∀ {l:List V} {m:List α} (k:Nat),(each f l m).p a b->(each f (l.take k) (m.take k)).p a b:=by
 intro l;induction l with
 |nil=>intro m k h;cases m with
  |nil=>simpa using h
  |cons x m=>exact h.elim
 |cons v l I=>intro m k h;cases m with
  |nil=>exact h.elim
  |cons x m=>cases k with
   |zero=>exact aa
   |succ k=>exact⟨h.1,I k h.2⟩
theorem CE : ∀ {l:List V} {m:List α} (k:Nat),(each f l m).p a b->(each f (l.drop k) (m.drop k)).p a b:=by
 intro l;induction l with
 |nil=>intro m k h;cases m with
  |nil=>simpa using h
  |cons x m=>exact h.elim
 |cons v l I=>intro m k h;cases m with
  |nil=>exact h.elim
  |cons x m=>cases k with
   |zero=>exact h
   |succ k=>exact I k h.2
end
def aeV (v:V)(b:Nat): V:=match v with
 |.sl id off _ _=>.sl id off b (.exact b)
 |v=>v
def aeW (v:V)(a:Nat): V:=match v with
 |.sl id off n (.exact c)=>.sl id (off+a*1) (n-a) (.exact (c-a))
 |.sl id off n (.rest _ alt)=>.sl id (off+a*1) (n-a) (.rest 1 (cond (Nat.beq a 0) alt (cond (Nat.blt a n) (off+a*1) off)))
 |v=>v
section
variable {v:V} {cs:List V}
theorem xR {b:Nat}(hm:wX (T.get h.tr) 1 v cs)(hb:b<=cs.length)(h1:1<=b)(hu:P.underlying t=some (.slice e))(I:bq P e=some 1): sliceV P h t v none (some b) (some b)=some (aeV v b):=by
 rcases hm.2 with⟨rfl,rfl⟩|⟨id,off,n,cap,N,row,rfl,hg,q3,q4,q5,q6⟩
 .simp at hb;omega
 .have hl:cs.length=n:=by rw[<-q5,cz,fA];omega
  cases cap with
  |exact c =>
   have q6:n<=c:=q6;simp only[sliceV,hu,I,fy];rw[show(Nat.ble 0 b&&Nat.ble b b&&Nat.ble b c)=true by simp;omega,ag,fM (by omega),aT,mc,eF,ie];rfl
  |rest a alt =>
   have q6:a=1:=q6;simp only[sliceV,hu,I,fy];rw[show(Nat.beq a 1&&Nat.ble 1 1)=true by simp[q6],ag,show(Nat.ble 0 b&&Nat.ble b b&&(Nat.ble b n||Nat.ble b (fF h id off 1))&&Nat.blt 0 n)=true by simp[gi];omega,ag,fM (by omega),aT,mc,eF,ie];rfl
theorem J5 (hm:wX (T.get h.tr) 1 v cs)(ha:a<cs.length)(hu:P.underlying t=some (.slice e))(I:bq P e=some 1): sliceV P h t v (some a) none none=some (aeW v a):=by
 rcases hm.2 with⟨rfl,rfl⟩|⟨id,off,n,cap,N,row,rfl,hg,q3,q4,q5,q6⟩
 .simp at ha
 .have hl:cs.length=n:=by rw[<-q5,cz,fA];omega
  cases cap with
  |exact c =>
   have q6:n<=c:=q6;simp only[sliceV,hu,I,fy,dz];rw[show(Nat.ble a n&&Nat.ble n c)=true by simp;omega,ag,fM (by omega),aT];rfl
  |rest z alt =>
   have q6:z=1:=q6;simp only[sliceV,hu,I,fy,dz];rw[show(Nat.beq z 1&&Nat.ble 1 1)=true by simp[q6],ag,show(Nat.ble a n&&(Nat.ble n n||Nat.ble n (fF h id off 1)))=true by simp;omega,ag];rfl
end
section
variable {told:cu} {v:V}
theorem L6 (k:Nat)(s:Sat h (dy us cs::S)): Sat h (dy (us.take k) (cs.take k)::dy us cs::S) :=
 (s.dup (aI.qS _ _)).dM λ_ _ h=>CD k h
theorem L7 (k:Nat)(s:Sat h (dy us cs::S)): Sat h (dy (us.drop k) (cs.drop k)::dy us cs::S) :=
 (s.dup (aI.qS _ _)).dM λ_ _ h=>CE k h
theorem WV (hT:W told)(hX:wY X 1 cv us)(hc:cs[i]?=some c)(I:iQ l c)(hl:l<=64)(fN:c.length<=225)(s:Sat h (pt x (.cells 4 (vf n l bv cv) false)::X::dy us cs::S)):
  Call ⟨Tryz.prog,told⟩ 117 [.ptr x 0,.int .i64 (i:Int)] h λr h'=>Sat h' (og r (fE l c)::pt x (.cells 4 (vf n l bv cv) false)::X::dy us cs::S):=by
 have s:=s.ae [1,1]
 obtain⟨u,id,off,e1,e2,hui,s⟩:=xP (P:=Tryz.prog) hX hc aQ dP bS s
 have s:=s.ae [3,0,0,0]
 have hv:=s.aC (k:=3) U (bp _ _)
 refine Call.of_wp (hT.free _ U) Tryz.func117 U U (zK 9 U (zY s 0 ew bP U ?_))
 by_cases h0:l=0
 .subst h0
  have I:1<=c.length/\1+c.getD 0 0<=c.length:=I
  have nh:c[0]?=some (c.getD 0 0):=by grind
  obtain⟨lS,bo,e3,e4⟩:=eU hv nh
  have pI:fE 0 c=(c.take (1+c.getD 0 0)).drop 1:=by rw[fE,ay U,l8,tv]
  generalize c.getD 0 0=z at I nh e3 e4 pI
  have hz:z<256:=hv.1 z (aJ nh)
  refine zC U cA (by simp) ?_
  refine zk 4 U ?_
  have z0:=s
  refine WP.drawn [af,af,af,af,af,af,af,af,af,af,af,af,af,af,af,af,af,af,af] U (by kernel_rfl) (by kernel_rfl) ?_
  refine zM U (zN U (zF U (cP _ _) (zL U (s.ld (k:=0) U gx U) (zM U (zO U (bM (r:=.ptr id off) U U e1) (zL U e2 (zM U (zN U (zF U (cP _ _) (zL U (s.ld (k:=0) U gx U) (zM U (zO U (bM (r:=.ptr id off) U U e1) (zL U e2 (zO U (bM (r:=.ptr lS bo) U U e3) (zL U e4 (zO U (aq (r:=.int .u8 ((1+z:Nat):Int)) U U (by rw[show((1+z:Nat):Int)=1+(z:Int) by omega];exact aL uB)) ?_))))))))))))))))
  refine zO U (bK (p:=some (.int .i64 1)) (q:=some (.int .u8 ((1+z:Nat):Int))) (m:=none) (p':=some 1) (q':=some (1+z)) (m':=none) U U U U (by rfl) (by rw[bN];rfl) U (fR hv (by omega) (by omega)).1) ?_
  refine zA U ?_
  refine aB.nil ⟨⟨aa,aa,aa,aa,aa,aa,aa,aa,aa,aa,aa,aa,aa,aa,aa,aa,aa,aa,aa,aa⟩,?_⟩
  refine WP.ret ⟨aa,_,U,?_⟩
  have s:=(s.ae [3]).dM (rA (a:=1) (b:=1+z) (by omega) (by omega))
  rw[<-pI] at s
  exact s
 .have I:4<=c.length:=by rw[iQ,ai h0] at I;exact I
  have pI:fE l c=(c.take c.length).drop 4:=by rw[fE,ai h0,jR]
  refine zB U cA (by simp;omega) ?_
  refine zk 6 U (zY s 0 cP gx U (zm U (zo U (bM (r:=.ptr id off) U U e1) (zl U e2 (zo U (bK (p:=some (.int .i64 4)) (q:=none) (m:=none) (p':=some 4) (q':=none) (m':=none) U U U U (by rfl) U U (iu hv I).1) ?_)))))
  refine zk 2 U (WP.ret ⟨aa,_,U,?_⟩)
  have s:=(s.ae [3]).dM (rA (a:=4) (b:=c.length) I (aH _))
  rw[<-pI] at s
  exact s
end
def wyA (w:V)(c:List (Nat×Nat)): aE:=.xs λo:Nat×Cap×Nat×List V=>.an (.ro o.1 (.cells o.2.2.1 o.2.2.2 false))
 (.pu (w=.sl o.1 0 c.length o.2.1/\o.2.2.2.length=o.2.2.1/\c.length*2<=o.2.2.1/\o.2.2.2.take (c.length*2)=jK c/\1<=c.length/\match o.2.1 with|.exact q=>c.length<=q|.rest z _=>z=2))
section
variable {c:List (Nat×Nat)} {b:Nat}
theorem Q5 (hc:1<=c.length)(s:Sat h (.arr 2 w (jK c)::S)): Sat h (wyA w c::S) :=
 s.r8.dM λm r h=>by
  obtain⟨_|⟨id,n,cap,N,rest⟩,h⟩:=h
  .have:=dg List.length h.2.2;rw[lq] at this;simp at this;omega
  .obtain⟨h1,h2,h3,h4,I,h6,h7⟩:=h;rw[lq] at h4;have:n=c.length:=by omega
   subst this;refine⟨(id,cap,N,jK c++rest),h1,h3,by rw[aO];exact I,by rw[lq] at I;show c.length*2<=N;omega,by rw[<-lq,fY U],hc,?_⟩;cases cap with
   |exact q=>exact h7.2
   |rest z alt=>exact h7.1
theorem DU (s:Sat h (wyA w c::S)): ∃id cap N row,w=.sl id 0 c.length cap/\row.length=N/\c.length*2<=N/\row.take (c.length*2)=jK c/\1<=c.length/\(match cap with|.exact q=>c.length<=q|.rest z _=>z=2)/\Sat h (ro id (.cells N row false)::S):=by
 obtain⟨o,s⟩:=jv.1 s;obtain⟨_,_,_,_,_,q1,I,q3,q4,q5,q6⟩:=s.at (k:=0) U;exact⟨o.1,o.2.1,o.2.2.1,o.2.2.2,q1,I,q3,q4,q5,q6,s.dM λ_ _ h=>h.1⟩
theorem CF (s:Sat h (wyA w c::S))(hu:P.underlying t=some (.slice e)): lenV P h t w=some (.int .i64 (c.length:Int)):=by
 obtain⟨id,cap,N,row,rfl,_⟩:=DU s;simp only[lenV,hu]
theorem O1 : ∀ {c:List (Nat×Nat)} {j:Nat},c[j]?=some (x,i)->((jK c).drop (j*2)).take 2=[.ptr x 0,.int .i64 (i:Int)]:=by
 intro c;induction c with
 |nil=>simp
 |cons a t ih =>
  intro j I;cases j with
  |zero =>
   simp only[jN,aA] at I;subst I;rfl
  |succ j =>
   rw[show jK (a::t)=[.ptr a.1 0,.int .i64 (a.2:Int)]++jK t from U,show(j+1)*2=2+j*2 by omega,<-vN];exact ih I
theorem J6 (hu:P.underlying t=some (.slice e))(I:bq P e=some 2)(hj:c[j]?=some (x,i))(s:Sat h (wyA w c::S)):
  ∃id off,indexAddrV P t w (.int .i64 (j:Int))=some (.ptr id off)/\(∀t',isAggT P t'=some false->loadV P h t' (.ptr id off)=some (.ptr x 0))/\(isAggT P e=some true->loadV P h e (.ptr id off)=some (.agg [.ptr x 0,.int .i64 (i:Int)])):=by
 have I4:=(List.getElem?_eq_some_iff.1 hj).1;obtain⟨id,cap,N,row,rfl,q1,q2,q3,q4,q5,s⟩:=DU s;have hr:=s.abu (k:=0) U;have hd:(row.drop (j*2)).take 2=[.ptr x 0,.int .i64 (i:Int)]:=by
  rw[<-O1 hj,<-q3,l8,rK,yF (by omega)]
 refine⟨id,j*2,?_,λt' ht=>BM ht hr ?_,λht => ?_⟩
 .simp only[indexAddrV,hu,I,fI];rw[show(decide ((0:Int)<=(j:Int))&&decide ((j:Int)<(c.length:Int)))=true by simp;omega,ag,eW]
 .rw[gE];have:=dg (λl=>l[0]?) hd;simpa[ic,fq] using this
 .simp only[loadV,ht,I];rw[pN hr q1,hd];rfl
def slHd (v:V)(b:Nat): V:=match v with
 |.sl id off _ (.exact q)=>.sl id off b (.exact q)
 |.sl id off _ (.rest _ alt)=>.sl id off b (.rest 2 alt)
 |v=>v
theorem Sat.Im (s:Sat h S)(I:getA S j=some (wyA w c)): ∃id cap,w=.sl id 0 c.length cap/\1<=c.length/\match cap with|.exact q=>c.length<=q|.rest z _=>z=2:=by
 obtain⟨_,_,_,_,o,_,q1,q2,q3,q4,q5,q6⟩:=s.at I;exact⟨o.1,o.2.1,q1,q5,q6⟩
theorem Sat.AR (s:Sat h S)(I:getA S j=some (wyA w c))(hu:P.underlying t=some (.slice e)): lenV P h t w=some (.int .i64 (c.length:Int)):=by
 obtain⟨id,cap,rfl,_⟩:=s.Im I;simp only[lenV,hu]
theorem Sat.AS (s:Sat h S)(hj:getA S j=some (wyA w c))(hu:P.underlying t=some (.slice e))(I:bq P e=some 2)(hb:b<=c.length): sliceV P h t w none (some b) none=some (slHd w b):=by
 obtain⟨id,cap,rfl,_,q5⟩:=s.Im hj;cases cap with
 |exact q =>
  have q5:c.length<=q:=q5;simp only[sliceV,hu,I,fy,dz];rw[show(Nat.ble 0 b&&Nat.ble b q)=true by simp;omega,ag,mc,eF,ie,ie];cases Nat.beq q 0<;>rfl
 |rest z alt =>
  have q5:z=2:=q5;simp only[sliceV,hu,I,fy,dz];rw[show(Nat.beq z 2&&Nat.ble 1 2)=true by simp[q5],ag,show(Nat.ble 0 b&&(Nat.ble b c.length||Nat.ble b (fF h id 0 2)))=true by simp;omega,ag];simp[slHd]
theorem L8 (h1:1<=b)(hb:b<=c.length)(s:Sat h (wyA w c::S)): Sat h (wyA (slHd w b) (c.take b)::S):=by
 obtain⟨id,cap,N,row,rfl,q1,q2,q3,q4,q5,s⟩:=DU s;have hl:(c.take b).length=b:=by rw[cz];omega
 have ht:jK (c.take b)=(jK c).take (b*2):=by
  have:jK c=jK (c.take b)++jK (c.drop b):=by rw[<-L4,jP]
  rw[this,fY (by rw[lq,hl])]
 have key:∀I,(match I with|.exact q=>b<=q|.rest z _=>z=2)->Sat h (wyA (.sl id 0 b I) (c.take b)::S):=λI hc=>s.dM λm r h=>by
  refine⟨(id,I,N,row),h,by rw[hl],q1,by rw[hl];show b*2<=N;omega,?_,by rw[hl];exact h1,?_⟩
  .rw[hl,ht,<-q3,rK,yF (by omega)]
  .rw[hl];exact hc
 cases cap with
 |exact q=>exact key (.exact q) (by have q5:c.length<=q:=q5;show b<=q;omega)
 |rest z alt=>exact key (.rest 2 alt) U
theorem Sat.adM (s:Sat h S)(I:getA S j=some (wyA w c)): w.beq w=true/\(slHd w b).beq (slHd w b)=true:=by
 obtain⟨id,cap,rfl,_⟩:=s.Im I;refine⟨Ap _ _ _ _,?_⟩;cases cap<;>exact Ap _ _ _ _
end
theorem Q6 : jJ (List.replicate 512 0)=0:=by rw[jJ,ay U]
def fresh (n m f:Nat): bA:=(Pl.fresh f,(Lg.fresh,Dk.fresh n m))
theorem L9 {m:Nat}(k:Int): (Dk.fresh n m).at k=List.replicate 512 0:=by
 rw[Dk.at,show lookL k (Dk.fresh n m).now=none from U];simp only[Dk.fresh];cases I:(List.replicate n (none:Option (List Nat)))[k.toNat]? with
 |none=>rfl
 |some o =>
  have:=yw (aJ I);subst this;rfl
theorem Jp {m f:Nat}(k:Int): pgA (fresh n m f) k=List.replicate 512 0:=by
 rw[pX (by rfl)];exact L9 k
theorem L_ {f:Nat}{x:Fm}(h:(Pl.fresh f).aj[i]?=some x): x=gn:=yw (aJ h)
theorem EI.fresh {m f:Nat}(hn:n<=65536)(hm:m<=16777216)(hf:1<=f)(Jg:f<=1024): EI n 1 (fresh n m f):=by
 have u7:∀x∈(Pl.fresh f).aj,x=gn:=λx I=>yw I;have hlen:(Pl.fresh f).aj.length=f:=gA;refine⟨⟨⟨⟨(show 0<(Pl.fresh f).aj.length by rw[hlen];omega),(show(Pl.fresh f).aj.length<=1024 by rw[hlen];exact Jg),λe he=>(by cases he),λx I=>by rw[u7 x I];decide,λx I=>by rw[u7 x I];decide⟩,Lg.Lm,?_⟩,λx I=>by rw[u7 x I];rfl,⟨vO,λk i hk=>(by cases hk)⟩⟩,⟨?_,vO,λk i hk=>(by cases hk),λi x I=>.inl (by rw[L_ I];decide),λk hk=>(by cases hk),vO⟩,⟨U,aH _,(show(1:Nat)+0<=1*1048600 by decide)⟩,?_⟩
 .exact⟨(show(-1:Int)<4294967296 by decide),gh _,hm,λe he=>(by cases he),λi b hb=>(by have h1:some b=none:=yw (aJ hb);cases h1),aH _,(show(List.replicate n (none:Option (List Nat))).length<=65536 by rw[gA];exact hn)⟩
 .exact⟨U,(show(-1:Int)<0 by decide),gA,λk hk=>(by cases hk),vO,λk h0 h1=>by show jJ ((Dk.fresh n m).at k)=0;rw[L9];exact Q6⟩
 .have e:jW (Pl.fresh f).aj=0:=by
   rw[jW,List.count_eq_zero];intro hh;obtain⟨x,I,hc⟩:=List.mem_map.1 hh;rw[u7 x I] at hc;cases hc
  show([]:List Wr).length+jW (Pl.fresh f).aj<=_;rw[e];decide
theorem O2 (h:n<128): (digits 9 n).length=1:=by
 grind[digits]
theorem O3 (h:n<16384): (digits 9 n).length<=2:=by
 grind[digits]
theorem EZ {c:fT}(I:c.bT.toNat<16384)(h2:c.pos.toNat<16384)(h3:c.b.length<16384): (pT c).length<=7+c.b.length:=by
 grind[O3,pT]
theorem aao {pg:Int}{now:List Nat}{l:List fT}(hr:A6 pg was now i l)(hn:now.length=512)(hp:pg.toNat<16384): ∀j,(∀k,i<=k->k<j->was[k]?=now[k]?)->j<=520->(l.flatMap pT).length<=520-max i j:=by
 induction hr with
 |done i h=>simp
 |skip i l h he hr ih =>
  grind
 |take i e l h1 h2 h3 h4 hr ih =>
  intro j hj Lw;have kJ:j<=i:=tD λI=>h3 (hj i (aH _) I);have h5:=ih (e+8) h4 (by omega);have hl:((now.take e).drop i).length=e-i:=by grind
  have h6:=EZ (c:=⟨pg,i,false,(now.take e).drop i⟩) hp (by grind) (by grind);rw[eE,aO];simp only[hl] at h6;omega
theorem aap {pg:Int}{now:List Nat}{c:List fT}(hr:Tb pg was now c)(I:now.length=512)(hp:pg.toNat<16384): (c.flatMap pT).length<=520:=by
 obtain⟨l,hl,rfl⟩:=hr;have:=aao hl I hp 0 (λk _ h=>absurd h (by omega)) (by omega);grind[EZ]
theorem mV.few {l:List Int}{e:Int}{cs:List fT}(hr:mV now l ε e cs ah)(hn:NW N now): (∀n∈l,n.toNat<16384)->(cs.flatMap pT).length<=520*l.length:=by
 induction hr with
 |nil ε=>simp
 |err n l ε e b ah hr he=>simp
 |part n l ε was b ah c e cs I hr hb A5 hc fN ht ih =>
  intro hl;have h1:=aap hc (jy (hn.look hb).1) (hl n a_);grind
 |whole n l ε was b ah e cs I hr hb A5 ht ih =>
  have qt:=jy (hn.look hb).1;grind[EZ]
theorem E0 {e:Int}{cs:List fT}{kd:Int}(hr:mV now (gp now) ε e cs ah)(I:NW N now)(hL:now.length<=L)(hN:N<=16384)(ht:tx<16384): (gU kd tx 0 0 [] cs).length<=520*L+20:=by
 have h2:=O3 ht;have h4:=O2 (n:=([]:List Nat).length) (by decide);have h5:=Nu cs.length;have h6:=hr.few I λn hm=>by have:=I.keys n (r_.1 hm);omega
 have hl:(gp now).length<=L:=by
  rw[gp,(iI _).length_eq,cf];exact hL
 have hl:=C3 520 hl;simp only[gU,aO,aW,b6] at h4 ⊢;omega
theorem qb (K M:Nat): nX λx=>x.2.log.length=K/\x.2.room=M:=by
 refine⟨λx n h => ?_,λx n b h => ?_⟩
 .unfold cR Dk.jh;split
  .exact h
  .split
   .exact h
   .split
    .exact h
    .split<;>first|exact h|exact h
 .unfold Dk.eP;split
  .exact h
  .split
   .exact h
   .split<;>exact h
def vi (K M:Nat)(ε:bA): Prop:=ε.2.2.log.length<=K/\ε.2.2.room=M
theorem vi.sm {M:Nat}(h:vi K M ε)(hs:Sm N ε ah): vi K M ah:=by
 have:=hs.2.1 _ ((qb ε.2.2.log.length ε.2.2.room).QJ N) ⟨U,U⟩;exact⟨by rw[this.1];exact h.1,by rw[this.2];exact h.2⟩
theorem DnR.fits {M:Nat}{e:Int}{cl:Bool}(hr:DnR ε now kd tx 0 0 [] 0 bj e cl ah)(cn:EI N B ε)(hB:B<=4000)(hw:NW N now)(hL:now.length<=L)(hN:N<=2999)(hL2:L<=2000)(h1:1<=kd)(h2:kd<=7)(Gg:tx<16384)(hd:vi K M ε)(hf:K+520*L+28<=M):
  cl=true/\e=0/\vi (K+520*L+28) M ah:=by
 have xq:∀n∈gp now,0<=n/\n<N:=λn hq=>hw.keys n (r_.1 hq);obtain⟨hK,hM⟩:=hd;have Q7:=cn.done hB hw (by omega) (by omega) hr;cases hr with
 |arg hh=>omega
 |dead _ _ _ hd=>omega
 |sQ e c ah _ _ _ _ hc Cj=>exact absurd (hc.ec cn.ec cn.ok xq).2.2 Cj
 |app c I _ _ _ _ hc Cj =>
  have K5:=E0 (kd:=kd) hc hw hL (by omega) Gg;have ago:520*L+20<=1048576:=by omega
  have hP:=(qb ε.2.2.log.length ε.2.2.room).ch hc ⟨U,U⟩;grind[mg,gD,wN]
 |put c I e kI _ _ _ _ hc ha hp =>
  rcases Q7 with⟨fN,_⟩|⟨_,he,_⟩
  .grind
  .refine⟨U,he,?_⟩;have K5:=E0 (kd:=kd) hc hw hL (by omega) Gg;have hP:=(qb ε.2.2.log.length ε.2.2.room).ch hc ⟨U,U⟩;rcases mg I.2 kd tx 0 0 [] c with⟨e,he,yQ,hq⟩|⟨_,ve,hq⟩|⟨_,hb,Iz,dx,ve,hq⟩
   .grind
   .grind
   .rw[hq] at hp;have ju:=(qb (ε.2.2.log.length+(gD I.2.1 kd tx 0 0 [] c).length) ε.2.2.room).pt hp ⟨by grind,hP.2⟩;have h3:(gD I.2.1 kd tx 0 0 [] c).length<=520*L+28:=by rw[gD,wN];omega
    exact⟨by omega,by omega⟩
section
variable {x:V}
theorem O4 (s:Sat h S)(hu:P.underlying t=some (.slice e))(hz:zeroT P e=some z)(hk:bq P e=some 1)(hl:z.cells.length=1)(hx:x.cells=[x])(hy:y.cells=[y])(I:storable x=true)(hsy:storable y=true):
  ∃v h',buildSliceV P h t 2 [(0,x),(1,y)]=some (v,h')/\Sat h' (.arr 1 v [x,y]::S):=by
 refine⟨.sl h.next 0 2 (.exact 2),newRow h [x,y],?_,?_⟩
 .obtain⟨z0,yN⟩:∃z0,z.cells=[z0]:=by
   match hq:z.cells with
   |[]=>rw[hq] at hl;cases hl
   |[z0]=>exact⟨z0,U⟩
   |_::_::_=>rw[hq] at hl;simp at hl
  simp only[buildSliceV,hu,hk,hz,yN];rw[show(Nat.beq [z0].length 1&&Nat.ble (2*1) 65536&&Nat.ble 1 1)=true by rfl,ag];have e1:repeatL [z0] 2=[z0,z0]:=by simp[repeatL]
  simp only[fillV,e1,hx,hy,aW,b6];show cond ([x,y].all storable) (some (V.sl h.next 0 2 (Cap.exact 2),newRow h [x,y])) none=_
  simp only[l_,mL,I,hsy];rfl
 .refine(s.new _).dM λm r hm=>⟨by simp[I,hsy],.inr ⟨h.next,2,.exact 2,2,[],U,?_,U,U,U,U,aH _⟩⟩
  have hm:m h.next=some (.cells 2 [x,y] false):=hm
  rw[hm];rfl
theorem O5 {S:Prop}: cC (pu S) (cK .aZ []):=λ_ _ _=>.inl ⟨λ_ h=>(by cases h),.inl ⟨.inl U,U⟩⟩
end
theorem AT : buildV Tryz.prog 47 [(0,.int .i64 (kd:Int))]=some (.agg (qv (kd:Int) 0 0 0 .aZ .aZ)):=by rw[Vz];rfl
section
variable {told:cu} {M p:Nat} {v x op:V} {l:List Nat}
theorem fh.done (hw:NW N now)(hd:∀m,pgA ah m=match lookL m now with|some b=>eV b bj|none=>pgA ε m){i:Int}(I:fh (pgG now ε i) kd link extra cs): fh (pgA ah i) kd link extra cs:=by
 rw[hd];unfold pgG at I;cases hq:lookL i now with
 |none=>rw[hq] at I;exact I
 |some b =>
  rw[hq] at I;obtain⟨k1,k2,_⟩:=Cq (n:=bj) I.len;exact I.tail k2 k1
theorem fU.done {M:List Nat}(hw:NW N now)(hd:∀m,pgA ah m=match lookL m now with|some b=>eV b bj|none=>pgA ε m)(I:fU n R M (pgG now ε)): fU n R M (pgA ah):=by
 obtain⟨ex,h0⟩:=I.head;obtain⟨kd,lk,sE,h1⟩:=I.marks;exact⟨⟨ex,h0.done hw hd⟩,I.rl,⟨kd,lk,sE,h1.done hw hd⟩,I.ml,I.n1,I.n2,I.own,I.hi⟩
theorem T1 (hT:W told)(jX:lp ε)(I:cW ε+65536<=268435456)(QC:ε.2.1.b=ε.2.2.log)(gm:ε.2.1.base+ε.2.1.b.length+1048584<=1099511627776)(hNm:N<=65536)(hw:NW N now)(s:Sat h (GA g a p q r data aR now ε::S)):
  Call ⟨Tryz.prog,told⟩ 18 [.ptr g 0,.agg (qv (kd:Int) 0 0 0 .aZ .aZ)] h λv h'=>∃(bj:Nat) (e:Int) (cl:Bool) (ah:bA),DnR ε now kd 0 0 0 [] 0 bj e cl ah/\v=.aX [.int .u64 (bj:Int),.int .i64 e] /\
   Sat h' (iy g a now cl::SA a p q r (cond cl .cg (.ptr g 0)) data aR ah::S):=by
 have s:=cY.1 s;have s:Sat h (iy g a now false::gH a p q r (.ptr g 0) data aR::gG r p q ε.1::dH q p ε.2.1::bZ p ε.2.2::S):=s;have s:=(s.gJ (φ:=True) aa).mq (k:=4);refine(Z7 (th:=0) (data:=[]) hT (s.ae [2,2,2,2,2,1,0]) O5 U jX I (λe he=>jy (hw.good e he).1) (by have:=hw.len;omega) (λn hn=>by have:=hw.keys n hn;omega) (by decide) (by decide) (by decide) (gh _) QC gm).mono ?_;rintro v h ⟨bj,e,cl,ah,hr,rfl,s⟩;have s:Sat h (iy g a now cl::gH a p q r (cond cl .cg (.ptr g 0)) data aR::gG r p q ah.1::dH q p ah.2.1::bZ p ah.2.2::pu True::S):=s;have s2:Sat h (SA a p q r (cond cl .cg (.ptr g 0)) data aR ah::iy g a now cl::pu True::S):=cY.2 (s.ae [1,1,1,1,0]);exact⟨bj,e,cl,ah,hr,U,(s2.ae [1]).del 2⟩
theorem Jq (hT:W told)(hB:B<=4000)(I:EI N B ε)(hw:NW N now)(s:Sat h (GA g a p q r data aR now ε::S)):
  Call ⟨Tryz.prog,told⟩ 18 [.ptr g 0,.agg (qv (kd:Int) 0 0 0 .aZ .aZ)] h λv h'=>∃(bj:Nat) (e:Int) (cl:Bool) (ah:bA),DnR ε now kd 0 0 0 [] 0 bj e cl ah/\v=.aX [.int .u64 (bj:Int),.int .i64 e] /\
   Sat h' (iy g a now cl::SA a p q r (cond cl .cg (.ptr g 0)) data aR ah::S):=by
 have AH:=I.cW;have gm:=I.el.size;exact T1 hT I.ok (by omega) I.el.log (by omega) I.many hw s
theorem Jr (hT:W told)(hB:B<=4000)(I:EI N B ε)(hw:NW N now)(hL:now.length<=L)(hN:N<=2999)(hL2:L<=2000)(h1:1<=kd)(h2:kd<=7)(hd:vi K M ε)(hf:K+520*L+28<=M)(s:Sat h (GA g a p q r data aR now ε::S)):
  Call ⟨Tryz.prog,told⟩ 18 [.ptr g 0,.agg (qv (kd:Int) 0 0 0 .aZ .aZ)] h λv h'=>∃(bj:Nat) (ah:bA),v=.aX [.int .u64 (bj:Int),.int .i64 0]/\EI N (B+2) ah/\(∀m,pgA ah m=match lookL m now with|some b=>eV b bj|none=>pgA ε m)/\vi (K+520*L+28) M ah /\
   Sat h' (iy g a now true::SA a p q r .cg data aR ah::S)/\DnR ε now kd 0 0 0 [] 0 bj 0 true ah:=by
 refine(Jq hT hB I hw s).mono ?_;rintro v h ⟨bj,e,cl,ah,hr,rfl,s⟩;obtain⟨rfl,rfl,aeX⟩:=hr.fits I (by omega) hw hL hN hL2 h1 h2 (by decide) hd hf;rcases I.done (by omega) hw (by omega) (by omega) hr with⟨fN,_⟩|⟨_,_,va,eA⟩
 .cases fN
 .exact⟨bj,ah,U,va,eA,aeX,s,hr⟩
noncomputable def mdL : Code:=dm [1,1,1,0,1,0,0] ((Tryz.f98.body).getD .skip)
theorem T2 (hT:W told)(dx:26+4*cs.length+tot cs<=512)(oo:us.length=cs.length): ∀(m i:Nat) (v:V) (b:List Nat) (h:H) (E:List (Nat×V)) (Q:Ex->List (Nat×V)->H->Prop),i+m=cs.length->fh b kd link extra (cs.take i) ->
  Sat h (bf v b::each (λv c=>.b8 v c) us cs::.arr 1 cv us::S)->Has E [(7,v),(22,cv),(23,.int .i64 (cs.length:Int)),(24,.int .i64 (i:Int))] ->
  (∀v' b' E' h',fh b' kd link extra cs->Has E' [(7,v')]->Sat h' (bf v' b'::each (λv c=>.b8 v c) us cs::.arr 1 cv us::S)->Q (.exit 0) E' h')->WP ⟨Tryz.prog,told⟩ 38 (.loop mdL) E h Q:=by
 intro m;induction m with
 |zero =>
  intro i v b h E Q hi hp s hE hq;refine WP.loop (WP.has hE (zg U (zC U aK (by simp;omega) ?_)));exact zk 3 U (WP.exit (hq v b _ _ (by rw[show cs.take i=cs from h_ (by omega)] at hp;exact hp) ⟨U,aa⟩ s))
 |succ m ih =>
  intro i v b h E Q hi hp s hE hq;have I:cs[i]?=some (cs[i]'(by omega)):=aF _;generalize (cs[i]'(by omega))=c at I;obtain⟨u,hu,s⟩:=Oo (λ_ _=>aI.b8 _ _) (s.ae [1]) I;dsimp only[aM,bringA] at s;obtain⟨id,off,e1,e2⟩:=kX (P:=Tryz.prog) s (k:=3) (i:=i) (c:=u) U hu aQ dP;have Lr:=iW I;have I7:=lG (cs:=cs) (i:=i+1);have hlen:(cs.take i).length=i:=by rw[cz];omega
  have qx:cs.take (i+1)=cs.take i++[c]:=by rw[nF,I];rfl
  refine WP.loop (WP.has hE (zg U (zB U aK (by simp;omega) ?_)));refine zk 5 U (WP.block (zK 3 U (zo U (bM (r:=.ptr id off) U U e1) (zl U (e2 _ bS) (zk 7 U ?_)))));have L2:=OH (told:=told) hT (s.ae [2,0]) (bh _ _) (bp _ _) hp (by rw[hlen];omega);rw[hlen] at L2;refine zc U (L2) ?_;rintro r h ⟨u',b',rfl,qt,s⟩;rw[<-qx] at qt;refine zk 4 U (zv (zr U (zb U (by exact aL ak) ?_)));refine zm U (zv ?_);exact ih (i+1) u' b' _ _ Q (by omega) qt (((s.ae [0,2,2]).del 4).del 3) ⟨U,U,U,U,aa⟩ hq
theorem O6 (hT:W told)(Gv:kd<=255)(Lu:lk<4294967296)(I:26+4*cs.length+tot cs<=512)(oo:us.length=cs.length)(s:Sat h (each (λv c=>.b8 v c) us cs::.arr 1 cv us::S)):
  Call ⟨Tryz.prog,told⟩ 98 [.int .i64 (kd:Int),.int .i64 (lk:Int),cv] h λr h'=>∃b',fh b' kd lk 0 cs/\Sat h' (bf r b'::S):=by
 refine Call.of_wp (hT.free _ U) Tryz.func98 U U (zK 7 U (zc U (Lt (kd:=kd) hT s Gv) ?_));rintro r h ⟨u,b,rfl,hb,s⟩;refine zk 10 U (zc U (OG (lk:=lk) (ex:=0) hT s (bh _ _) hb Lu (by decide)) ?_);rintro r h ⟨u2,b2,rfl,ob,s⟩;refine zk 9 U (zo U (aD U U U (s.fS (n:=cs.length) (j:=3) U (by rw[oo,cH]) (by decide) aQ)) ?_);refine zk 2 U (WP.block ?_);refine T2 hT I oo cs.length 0 u2 b2 _ _ _ (by omega) ob (s.ae [0,1,1]) ⟨U,U,U,U,aa⟩ (λv' b' E' h' uI hE s' => ?_);have s:=s';exact WP.has hE (zK 5 U (WP.ret ⟨aa,_,U,b',uI,((s.del 3).del 2).del 1⟩))
theorem Q8 (hT:W told)(s:Sat h (X::S))(hX:cC X (cK v b))(hl:b.length=512)(hg:cI b=false): Call ⟨Tryz.prog,told⟩ 160 [v] h λr h'=>r=.aX [.aZ,.int .i64 4]/\Sat h' (X::S):=by
 refine Call.of_wp (hT.free _ U) Le U U (zK 8 U (zc U (uF hT s hX (by omega)) ?_));rintro r h' ⟨s,(⟨I,rfl⟩|⟨_,rfl⟩)⟩
 .rw[hg] at I;cases I
 refine zk 3 U ?_;refine au.cj s U U U (cm jD) (λp4 h s => ?_);refine zS U (s.gZ (j:=0) U aV U U) (λh s => ?_);refine zk 6 U (zB U aG (by decide) ?_);exact zk 8 U (WP.ret ⟨aa,_,U,U,s.drop⟩)
theorem T3 (hT:W told)(hR:mE told N B rv A pg)(cn:EI N B ε)(hN:1<=N)(hl:(pg ε 0).length=512)(hg:cI (pg ε 0)=false)(s:Sat h (A ε::S)):
  Call ⟨Tryz.prog,told⟩ 163 [rv] h λv h'=>∃ah,v=.aX [.aZ,.int .i64 0,.bool false,.int .i64 0]/\EI N B ah/\Sm N ε ah/\Sat h' (A ah::S):=by
 obtain⟨ty,u,f,rfl,hm,jm⟩:=hR.iface;refine Call.of_wp (hT.free _ U) Tryz.func163 U U (zK 10 U (au.any U U U (OpR.invoke U U U hm U (jm cn (by decide) (by omega) s)) ?_));rintro v h ⟨u,ah,rfl,I,hs,s⟩;refine zk 10 U (zC U aG (U) (zk 6 U (zc U (Q8 hT s (bh _ _) hl hg) ?_)));rintro v h ⟨rfl,s⟩;refine zk 8 U (WP.drawn [af,af,af,af,af,af,af,af,some (0,2),some (0,2),some (0,2),af,af,af,af,af,af,af,af,af,af,af] U (by kernel_rfl) (by kernel_rfl) ?_);refine zM U (aB.xx U U U U (aq U U aG) (by decide) ?_);refine zM U (aB.no (e:=false) U U U U (aB.no (e:=false) U U U U (aB.no (e:=false) U U U U (zO U (oT U U) (zM U (aB.no (e:=false) U U U U (aB.no (e:=false) U U U U (aB.no (e:=false) U U U U (aB.no (e:=true) U U U U (aB.no (e:=true) U U U U (aB.no (e:=false) U U U U (zO U (oT U U) (zM U (aB.no (e:=false) U U U U (aB.no (e:=false) U U U U (aB.no (e:=false) U U U U (aB.no (e:=false) U U U U (aB.no (e:=false) U U U U (zO U (oT U U) ?_)))))))))))))))))));refine aB.nil ⟨⟨aa,aa,aa,aa,aa,aa,aa,aa,λ_ _=>.inl U,λ_ _=>.inl U,λ_ _=>.inl U,yr 12⟩,?_⟩;exact zK 8 U (WP.ret ⟨aa,_,U,ah,U,I,hs,s.drop⟩)
theorem JM (hT:W told)(hR:mE told N B rv A pg)(cn:EI N B ε)(hN:1<=N)(hl:(pg ε 0).length=512)(hg:cI (pg ε 0)=false)(s:Sat h (A ε::S)):
  Call ⟨Tryz.prog,told⟩ 95 [rv] h λv h'=>∃ah,v=.aX [.bool false,.int .i64 0]/\EI N B ah/\Sm N ε ah/\Sat h' (A ah::S):=by
 refine Call.of_wp (hT.free _ U) Tryz.func95 U U (zK 8 U (zc U (T3 hT hR cn hN hl hg s) ?_));rintro v h ⟨ah,rfl,I,hs,s⟩;exact zk 17 U (WP.ret ⟨aa,_,U,ah,U,I,hs,s⟩)
end
def Bb : List Nat:=((List.replicate 375 0).set 0 1).set 0 3
theorem T4 : bt Bb j=decide (j<2):=by
 unfold bt Bb;by_cases h:j/8=0
 .have e:(((List.replicate 375 0).set 0 1).set 0 3).getD (j/8) 0=3:=by rw[h];decide +kernel
  have k:∀i,i<8->(3:Nat).testBit i=decide (i<2):=by decide
  rw[e,k _ (by omega)];by_cases I:j<2
  .rw[dZ I,dZ (by omega)]
  .rw[f_ I,f_ (by omega)]
 .have e:(((List.replicate 375 0).set 0 1).set 0 3).getD (j/8) 0=0:=by
   rw[tu,lX (by omega),lX (by omega),List.getElem?_replicate];split<;>rfl
  rw[e,Nat.zero_testBit,f_ (by omega)]
def GDn (N B kd:Nat)(ε ah:bA): Prop:=∃(c_:bA) (now:List (Int×List Nat)) (bj:Nat),EI N B c_/\Sm N ε c_/\NW N now/\(∀i:Int,2<=i->lookL i now=none)/\DnR c_ now kd 0 0 0 [] 0 bj 0 true ah
section
variable {told:cu} {M p:Nat}
set_option maxHeartbeats 1000000 in
theorem T6 (hB:B<=800)(cn:EI N B ε)(hN:4<=N)(Gx:N<=2999)(hz:(pgA ε 0).length=512)(hg:cI (pgA ε 0)=false)(hd:vi K M ε)(hf:K+1068<=M)(s:Sat h (SA a p q r .cg data aR ε::S)):
  ∃v h2,(∃N0,∀n,N0<=n->toldDefer CB n 32 [.ptr a 0] h=some (v,h2))/\(v=.int .i64 0/\∃ah,EI N (B+2) ah/\fU N (List.replicate 64 0) Bb (pgA ah)/\vi (K+1068) M ah/\Sat h2 (SA a p q r .cg data aR ah::S)/\GDn N B 1 ε ah):=by
 have I:=W.base
 refine toldDefer_do (C:=CB) LN U U (of_decide_eq_true (by kernel_rfl)) ?_
 refine WPd.seq (WPd.of_wp U (zr U (za U (zv (WPd.seq (WPd.of_wp U (zr U (zm U (zo U (oz U (mki_of zG U)) (zc U (JM I (WJ I (by omega)) cn (by omega) hz hg s) ?_))))))))))
 rintro v h ⟨c_,rfl,kD,ej,s⟩
 have hd:=hd.sm ej
 have s:Sat h (gH a p q r .cg data aR::gG r p q c_.1::dH q p c_.2.1::bZ p c_.2.2::S):=cY.1 s
 refine zk 5 U (zv (WPd.seq (WPd.of_wp U (WP.block (zg U (zm U (zh U (aq U U aG) (U) (za U (zv (zj U (zg U (zk 2 U (zv (zj U (WP.skip (WPd.seq (WPd.of_wp U (zr U (zm U (zc U (Wj I s) ?_))))))))))))))))))))
 rintro v h' ⟨rfl,rfl⟩
 refine zc U (ED I (s.ae [3])) ?_
 rintro v h' ⟨rfl,rfl⟩
 rw[kD.ec.dk.bI]
 refine za U (zv (WPd.seq (WPd.of_wp U (zr U (zm U (zc U (Cw I (n:=N) (by omega) (by omega)) ?_))))))
 rintro v h' ⟨rfl,rfl⟩
 refine za U (zv (WPd.seq (WPd.of_wp U (zr U (zm U (zc U (I_ I s) ?_))))))
 rintro v h ⟨g,rfl,s⟩
 refine zk 5 U (zv (WPd.seq (WPd.seq (WPd.of_wp U (zr U (zm U (zh U (aq U U aG) (U) (zv (WPd.of_wp U (zj U (WP.skip (WPd.seq (WPd.defer U U U U U U U U U U U U (WPd.seq (WPd.seq (WPd.of_wp U (zr U (zk 2 U (zb U (by exact aL ak) ?_)))))))))))))))))))
 refine zC U aK (by simp;omega) ?_
 have s:Sat h (GA g a p q r data aR [] c_::S):=cY.2 s
 refine zv (WPd.of_wp U (zj U (WP.skip (WPd.seq (WPd.seq (WPd.of_wp U (WP.drawn [some (0,5),some (0,4),af,af,af,af,af,af] U (by kernel_rfl) (by kernel_rfl) ?_)))))))
 refine zM U (zM U (aB.any U U U U (OpR.call U U U U (LS I s)) ?_))
 intro mv h s
 refine aB.any U U U U (OpR.J0 U s U U U U (by decide)) ?_
 intro zbv h s
 have s:=s.ff
 have T7:(List.replicate 64 0).length=64:=gA
 have hm:=(s.aC (k:=1) U (bp _ _)).cells
 have hzc:=(s.aC (k:=0) U (bp _ _)).cells
 obtain⟨cv,h1,e1,s1⟩:=O4 (P:=Tryz.prog) (x:=mv) (y:=zbv) s aQ lK dP U hm.1 hzc.1 hm.2 hzc.2
 refine aB.any U U U U (OpR.of (R:=λv h'=>v=cv/\h'=h1) (je U e1) ⟨U,U⟩) ?_
 rintro cv h ⟨rfl,rfl⟩
 have s:=(s1.ae [2,1]).two (C:=each (λv c=>.b8 v c) [mv,zbv] [jj,List.replicate 64 0]) (aI.b8 _ _) (aI.b8 _ _) λa b q1 q2=>⟨q1,q2,aa⟩
 generalize hR:List.replicate 64 0=R at s T7
 refine aB.any U U U U (OpR.call U U U U (O6 (kd:=201) (lk:=N) I (by decide) (by omega) (by simp only[tot,jj,aW,b6,T7];decide) U s)) ?_
 rintro u h ⟨b0,nh,s⟩
 refine aB.any U U U U (OpR.call U U U U (QY (i:=0) I (by omega) kD (NW.nil N) (by omega) (s.ae [1,0]) (bh _ _) nh)) ?_
 rintro v h ⟨iJ,rfl,oH,j3,YF,s⟩
 have hd:=hd.sm j3
 refine zA U ?_
 refine aB.nil ⟨⟨λ_ _=>.inr ⟨U,⟨_,b7 U⟩,bx _ U⟩,λ_ _=>.inr ⟨U,⟨_,b7 U⟩,bx _ U⟩,aa,aa,aa,aa,aa,aa,aa⟩,?_⟩
 refine WPd.seq (WPd.of_wp U (zr U (zm U (zh U (aq U U aG) (U) (zv (WPd.of_wp U (zj U (WP.skip (WPd.seq (WPd.seq (WPd.of_wp U (zr U (za U (zv (WPd.of_wp U (WP.block (WP.loop (zw (zg U (zk 2 U (zt U (aq U U aK) (by decide) ?_)))))))))))))))))))))
 refine zv (zi U (WP.skip (zw (WP.block (zg U (au.any U U U (OpR.J0 U s U U U U (by decide)) ?_))))))
 intro mk h s
 have WW:(List.replicate 375 0).length=375:=gA
 have yN:(List.replicate 375 0)[0]?=some 0:=by decide +kernel
 have Gk:Bb.length=375:=by unfold Bb;rw[cG,cG,WW]
 have T8:Bb=((List.replicate 375 0).set 0 1).set 0 3:=rfl
 have Cx:∀j,bt Bb j=decide (j<2):=λj=>T4
 generalize Bb=M0 at Gk T8 Cx ⊢
 generalize List.replicate 375 0=Z at s WW yN T8
 obtain⟨id,off,e2,e3⟩:=eU (s.buf (k:=0) U).view yN
 obtain⟨tq,qD,e4,h4,e5,s2⟩:=oU s (i:=0) (b:=1) (by omega) (by decide)
 have ee:V.ptr id off=V.ptr tq qD:=by rw[e2] at e4;exact bD e4
 rw[<-ee] at e5
 refine zk 8 U (WP.block (WP.loop (zg U (zB U aK (by decide) ?_))))
 refine zk 5 U (WP.block (zK 8 U (zo U (aq (r:=.int .i64 0) U U (by kernel_rfl)) ?_)))
 refine zm U (zb U (by exact dV ak) ?_)
 refine zB U dK (by decide) ?_
 refine zk 2 U (WP.drawn [af,af,af,af,af,af,af,af,af,af,af,af] U (by kernel_rfl) (by kernel_rfl) ?_)
 refine zM U (zM U (zO U (aq (r:=.int .i64 0) U U (by kernel_rfl)) ?_))
 refine zO U (aq (r:=.int .i64 0) U U (by kernel_rfl)) ?_
 refine zO U (bM (r:=.ptr id off) U U e2) (zL U e3 (zM U (zO U (aq (r:=.int .i64 0) U U (by kernel_rfl)) ?_)))
 refine zO U (aq (r:=.int .u8 1) U U (by kernel_rfl)) ?_
 refine zO U (aq (r:=.int .u8 1) U U (by kernel_rfl)) ?_
 refine zO U (bM (r:=.ptr id off) U U e2) (aB.lJ U U U (OpR.yW U U U (⟨h4,e5,s2⟩)) ?_)
 rintro w h ⟨rfl,s⟩
 refine aB.nil ⟨⟨aa,aa,aa,aa,aa,aa,aa,aa,aa,aa,aa,aa,aa⟩,?_⟩
 have D6:(Z.set 0 1)[0]?=some 1:=jO (by omega)
 have wL:(Z.set 0 1).length=375:=by rw[cG,WW]
 obtain⟨id5,WX,e6,e7⟩:=eU (s.buf (k:=0) U).view D6
 obtain⟨id6,aeY,e8,h7,e9,s3⟩:=oU s (i:=0) (b:=3) (by omega) (by decide)
 have ee:V.ptr id5 WX=V.ptr id6 aeY:=by rw[e6] at e8;exact bD e8
 rw[<-ee] at e9
 refine zr U (zb U (by exact aL ak) ?_)
 refine zm U (zv (WP.loop (zg U (zt U (aq U U aK) (by decide) ?_))))
 refine zk 5 U (WP.block (zK 8 U (zo U (aq (r:=.int .i64 0) U U (by kernel_rfl)) ?_)))
 refine zm U (zb U (by exact dV ak) ?_)
 refine zB U dK (by decide) ?_
 refine zk 2 U (WP.drawn [af,af,af,af,af,af,af,af,af,af,af,af] U (by kernel_rfl) (by kernel_rfl) ?_)
 refine zM U (zM U (zO U (aq (r:=.int .i64 1) U U (by kernel_rfl)) ?_))
 refine zO U (aq (r:=.int .i64 0) U U (by kernel_rfl)) ?_
 refine zO U (bM (r:=.ptr id5 WX) U U e6) (zL U e7 (zM U (zO U (aq (r:=.int .i64 1) U U (by kernel_rfl)) ?_)))
 refine zO U (aq (r:=.int .u8 2) U U (by kernel_rfl)) ?_
 refine zO U (aq (r:=.int .u8 3) U U (by kernel_rfl)) ?_
 refine zO U (bM (r:=.ptr id5 WX) U U e6) (aB.lJ U U U (OpR.yW U U U (⟨h7,e9,s3⟩)) ?_)
 rintro w h ⟨rfl,s⟩
 refine aB.nil ⟨⟨aa,aa,aa,aa,aa,aa,aa,aa,aa,aa,aa,aa,aa⟩,?_⟩
 rw[<-T8] at s
 refine zr U (zb U (by exact aL ak) ?_)
 refine zm U (zv (WP.loop (zg U (zh U (aq U U aK) (by decide) ?_))))
 refine zk 3 U (WP.exit (zK 5 U ?_))
 have s:=s.ff
 have tj:=(s.aC (k:=0) U (bp _ _)).cells
 obtain⟨z7,h8,e10,s4⟩:=kV (P:=Tryz.prog) (k:=1) (x:=mk) s aQ lK dP U (by decide) (by decide) (by rw[tj.1];rfl) (by rw[tj.1];simp only[l_,mL,tj.2];rfl)
 rw[tj.1] at s4
 refine au.any U U U (OpR.of (R:=λv h'=>v=z7/\h'=h8) (je U e10) ⟨U,U⟩) ?_
 rintro z7 h ⟨rfl,rfl⟩
 have s:=(s4.ae [1]).dM (B:=each (λv c=>.b8 v c) [mk] [M0]) λa b q=>⟨q,aa⟩
 dsimp only[aM,bringA] at s
 refine zc U (O6 (kd:=202) (lk:=0) I (by decide) (by decide) (by simp only[tot,aW,b6,Gk];decide) U s) ?_
 rintro u h ⟨b1,lB,s⟩
 refine zc U (QY (i:=1) I (by omega) oH YF (by omega) (s.ae [1,0]) (bh _ _) lB) ?_
 rintro v h ⟨kI,rfl,vh,qy,zX,s⟩
 dsimp only[aM,bringA] at s
 have hd:=hd.sm qy
 refine za U (zv (zg U (zm U (zh U (aq U U aG) (U) (zv (zj U (WP.skip (zr U (zm U (zb U (by exact aL ak) ?_))))))))))
 refine zk 2 U (WP.loop (zK 5 U (zC U aK (by decide) ?_)))
 refine zk 2 U (WP.exit (WPd.seq (WPd.of_wp U (zK 2 U (zo U (cO U (AT (kd:=1))) (zc U (Jr (kd:=1) (L:=2) I (by omega) vh zX (cN gz (Nat.succ_le_succ gz)) (by omega) (by decide) (by decide) (by decide) hd hf s) ?_))))))
 rintro v h ⟨bj,rC,rfl,acj,eA,Tr,s,OQ⟩
 have gI:fU N R M0 (pgG (cD ((1:Nat):Int) b1 (cD ((0:Nat):Int) b0 [])) kI):=by
  refine⟨⟨0,?_⟩,T7,⟨202,0,0,?_⟩,Gk,by omega,by omega,λj hj=>by rw[Cx,dZ hj],λj hj=>by rw[Cx,f_ (by omega)]⟩
  .rw[eY,ai (by decide),eY,ay (by decide)];exact nh
  .rw[eY,ay (by decide)];exact lB
 refine zk 4 U (zv (WPd.seq (WPd.of_wp U (zr U (zk 2 U (zv (WPd.of_wp U (WP.ret ?_))))))))
 have s:=s.ae [1]
 have s:=cY.1 s
 have s:=s.ae [4]
 obtain⟨v2,h2,Sj,rfl,s⟩:=Qy I s
 have s:=s.ae [1,1,1,1]
 have s:Sat h2 (SA a p q r .cg data aR rC::_):=cY.2 s
 have hdn:uk 20=none:=I.free _ U
 exact⟨aa,h2,_,Ny (C:=CB) hdn KV U U Sj,Aq U,U,rC,acj,gI.done zX eA,Tr,((s.del 3).del 2).del 1,kI,_,bj,vh,(ej.trans j3).trans qy,zX,λi hi=>by rw[mU,ai (by omega),mU,ai (by omega)];rfl,OQ⟩
end
section
variable {told:cu} {v x:V} {l:List Nat}
def z8 (f:Nat->Bool)(k:Nat): List Nat:=(List.range k).filter f
theorem Ma {f:Nat->Bool}: z8 f (k+1)=if f k then z8 f k++[k] else z8 f k:=by
 grind[z8,List.range_succ]
theorem Io {f:Nat->Bool}: (z8 f k).length<=k:=by
 grind[z8]
theorem E3 (s:Sat h (.arr 1 v (cJ l)::S))(hl:l.length<=1048576):
  ∃I h1 w h2,buildSliceV Tryz.prog h 25 1 [(0,.int .i64 (k:Int))]=some (I,h1)/\appendV Tryz.prog h1 #[25,25] v I=some (w,h2)/\Sat h2 (.arr 1 w (cJ (l++[k]))::S):=by
 obtain⟨I,h1,e1,s1⟩:=kV (P:=Tryz.prog) (k:=1) (x:=.int .i64 (k:Int)) s dF BT lQ U (by decide) (by decide) U U;obtain⟨i1,c9,fH,pR⟩:=Ay;obtain⟨w,h2,e2,s2⟩:=iw (s1.ae [1,0]) dF c9 BT fH (by omega) U (by decide) (by simp only[jz,V.cells,aW,b6];omega);refine⟨I,h1,w,h2,e1,e2,?_⟩;have e:cJ (l++[k])=cJ l++[.int .i64 (k:Int)]:=by simp[cJ]
 rw[e];exact s2.del 1
noncomputable def usL : Code:=dm [1,1,1,1,0,1,0,0,1,1,0,0,1,1,1,1,0,0] ((Tryz.f28.body).getD .skip)
theorem T9 (hT:W told)(oo:M.length=375)(hn:n<=3000): ∀(m k:Nat) (v:V) (h:H) (E:List (Nat×V)) (Q:Ex->List (Nat×V)->H->Prop),k+m=n ->
  Sat h (.arr 1 v (cJ (z8 (bt M) k))::bf u M::S)->Has E [(7,v),(8,.int .i64 0),(10,u),(24,.int .i64 1),(25,.int .i64 0),(42,.int .i64 (n:Int)),(43,.int .i64 (k:Int))] ->
  (∀v' E' h',Has E' [(7,v'),(24,.int .i64 1),(25,.int .i64 0)]->Sat h' (.arr 1 v' (cJ (z8 (bt M) n))::bf u M::S)->Q (.exit 2) E' h')->WP ⟨Tryz.prog,told⟩ 70 (.loop usL) E h Q:=by
 intro m;induction m with
 |zero =>
  intro k v h E Q hk s hE hq;refine WP.loop (WP.has hE (zg U (zC U aK (by simp;omega) ?_)));refine zk 3 U (WP.exit ?_);obtain rfl:k=n:=by omega
  exact hq v _ _ ⟨U,U,U,aa⟩ s
 |succ m ih =>
  intro k v h E Q hk s hE hq;have hb:M[k/8]?=some (M[k/8]'(by omega)):=aF _;have qQ:M.getD (k/8) 0=M[k/8]'(by omega):=by rw[tu,hb];rfl
  generalize (M[k/8]'(by omega))=x at hb qQ;have hv:=(s.buf (k:=1) U).view;have hx:x<256:=hv.1 x (aJ hb);have Cx:x.testBit (k%8)=bt M k:=by rw[bt,qQ]
  obtain⟨id,off,e1,e2⟩:=eU hv hb;have xC:x/2^(k%8)<256:=Hj (Hw _ _) hx;have oo:=Io (f:=bt M) (k:=k);refine WP.loop (WP.has hE (zg U (zB U aK (by simp;omega) ?_)));refine zk 5 U (WP.block (zK 9 U (zb U (AO (a:=k) (b:=8) (by decide) (by omega)) ?_)));refine zo U (bM (r:=.ptr id off) U U e1) (zl U e2 (zm U (zb U (La (a:=k) (b:=8) (by decide)) ?_)));refine zb U (TI (a:=x) (k:=k%8) (by omega)) ?_;refine zb U (TJ (b:=1) xC (by decide)) ?_;cases I:bt M k with
  |true =>
   refine zB U LX (Cx.trans I) (zk 5 U (zb U (by exact jf ak) ?_));refine zm U (zb U (by exact aL ak) ?_);obtain⟨iv,h1,w,h2,e3,e4,s2⟩:=E3 (k:=k) s (by omega);have ek:(3000:Int)*0+(k:Int)=(k:Int):=by omega
   rw[ek];refine au.any U U U (OpR.of (R:=λv h'=>v=iv/\h'=h1) (je U e3) ⟨U,U⟩) ?_;rintro iv h1 ⟨rfl,rfl⟩;refine au.any U U U (OpR.of (R:=λv h'=>v=w/\h'=h2) (iY U U e4) ⟨U,U⟩) ?_;rintro w h2 ⟨rfl,rfl⟩;refine za U (zv (zr U (zb U (by exact aL ak) ?_)));refine zm U (zv ?_);exact ih (k+1) _ _ _ Q (by omega) (by rw[Ma,I,ay U];exact s2) ⟨U,U,U,U,U,U,U,aa⟩ hq
  |false =>
   refine zh U (aq U U LX) (Cx.trans I) (zv (zj U (WP.skip (zr U (zb U (by exact aL ak) ?_)))));refine zm U (zv ?_);exact ih (k+1) _ _ _ Q (by omega) (by rw[Ma,I,ai (by decide)];exact s) ⟨U,U,U,U,U,U,U,aa⟩ hq
theorem WY (hT:W told)(hR:mE told N B rv A pg)(cn:EI N B ε)(hN:2<=N)(hp:fU n R M (pg ε))(s:Sat h (A ε::S)):
  Call ⟨Tryz.prog,told⟩ 28 [rv] h λv h'=>∃w ah,v=.aX [w,.int .i64 0]/\EI N B ah/\Sm N ε ah/\Sat h' (.arr 1 w (cJ (z8 (bt M) n))::A ah::S):=by
 obtain⟨ex,rS⟩:=hp.head;obtain⟨kd,lk,sE,I⟩:=hp.marks;have hM:=hp.ml;have qu:=hp.n2;have wJ:=hp.n1;have oo:=Io (f:=bt M) (k:=n);refine Call.of_wp (hT.free _ U) Tryz.func28 U U (zK 8 U (zc U (aaf hT hR cn (by omega) rS hp.rl s) ?_));rintro v h ⟨u,c_,rfl,kD,ej,s⟩;refine zk 12 U (zC U aG (U) (zk 11 U (zc U (Cw hT (by omega) (by omega)) ?_)));rintro v h' ⟨rfl,rfl⟩;refine zb U (by exact dV ak) ?_;refine zk 2 U (WP.block (WP.loop (zg U (zB U aK (by decide) ?_))));have I:fh (pg c_ 1) kd lk sE [M]:=by rw[hR.same ej];exact I
 refine zk 5 U (WP.block (zK 9 U (zc U (WD hT hR kD hN I hM (s.ae [1])) ?_)));rintro v h ⟨w2,u2,iJ,rfl,oH,j3,s⟩;refine zk 12 U (zC U aG (U) (zk 7 U (zb U (by exact jf ak) ?_)));refine zb U (by exact dV ak) ?_;have em:min (3000:Int) ((n:Int)-3000*0)=(n:Int):=by omega
 refine zo U (KO (r:=.int .i64 (n:Int)) U U (ab9.trans (by rw[em]))) ?_;refine zk 2 U (WP.block ?_);have s:=s.mq (k:=1);refine T9 hT hM (by omega) n 0 _ _ _ _ (by omega) s ⟨U,U,U,U,U,U,U,aa⟩ (λv' E' h' hE s' => ?_);have s:=s';refine WP.has hE (zr U (zb U (by exact aL ak) ?_));refine zm U (zv (WP.loop (zg U (zh U (aq U U aK) (by decide) ?_))));refine zk 3 U (WP.exit (zK 3 U (zo U (aD U U U (s.fS (n:=(z8 (bt M) n).length) (j:=0) U (by rw[jz,cH]) (by decide) dF)) ?_)));obtain⟨i1,c9,fH,pR⟩:=Ay;obtain⟨wv,h1,e3,s1⟩:=BY (P:=Tryz.prog) s dF c9 BT fH (by omega) U (by decide) (by decide) (n:=0) (c:=(z8 (bt M) n).length) (by omega) (by omega);refine au.any U U U (OpR.of (R:=λv h'=>v=wv/\h'=h1) (Al U U e3) ⟨U,U⟩) ?_;rintro w0 h ⟨rfl,rfl⟩;have s:Sat h (.arr 1 w0 []::_):=s1;obtain⟨w3,h2,e4,s2⟩:=iw s dF c9 BT fH (by omega) U (by decide) (by simp only[jz,b6];omega);rw[dL] at s2;refine zm U (au.any U U U (OpR.of (R:=λv h'=>v=w3/\h'=h2) (iY U U e4) ⟨U,U⟩) ?_);rintro w3 h ⟨rfl,rfl⟩;exact zk 3 U (WP.ret ⟨aa,_,U,_,iJ,U,oH,ej.trans j3,(((((s2.ae [0,3]).del 5).del 4).del 3).del 2)⟩)
end
section
variable {v c x:V} {cs:List V}
theorem tc (s:Sat h (.arr 1 v cs::S))(hi:i<cs.length)(hx:x.cells=[x])(eG:storable x=true)(hu:P.underlying t=some (.slice te))(p_:bq P te=some 1):
  ∃id off h',indexAddrV P t v (.int .i64 (i:Int))=some (.ptr id off)/\j8 P h te (.ptr id off) x=some h'/\Sat h' (.arr 1 v (cs.set i x)::S):=by
 have fG:cs≠[]:=λe=>by rw[e] at hi;simp at hi
 have I:=s.JZ (j:=0) U;obtain⟨id,m,cap,M,rest,rfl,hl,hM,s1,hc⟩:=s.ZC fG;rw[cH] at hl;obtain⟨h',e1,e2⟩:=s1.kC (P:=P) (t:=te) (k:=0) (off:=i) (v:=x) U p_ (by rw[aO,hM]) (by omega) hx eG;refine⟨id,i,h',?_,e1,hc h' (cs.set i x) S (cG) ?_ ?_⟩
 .simp only[indexAddrV,hu,p_,fI];rw[show(decide ((0:Int)<=(i:Int))&&decide ((i:Int)<(m:Int)))=true by simp;omega,ag];simp
 .rw[nG] at I ⊢;intro y hy;rcases mI hy with hy|rfl
  .exact I y hy
  .exact eG
 .have e3:(cs++rest).set i x=cs.set i x++rest:=List.set_append_left _ _ hi;dsimp only[setA] at e2;rw[e3] at e2;exact e2
end
section
variable {P:Int->List Nat}
theorem Nv.aeZ (hN:Nv F P l lo hi cs es ps)(I:486<cy cs)(h2:cy cs<=if l=0 then 715 else 590): ∃k,mz cs (min 2 (l+1)) k:=by
 have hc:=hN.cells;cases l with
 |zero=>exact Wu (λc h=>by have:=(hc c h).2.1;omega) I h2
 |succ l =>
  have e:min 2 (l+1+1)=2:=by omega
  rw[e];rw[ai (by omega)] at h2;exact LB (λc h=>by have:=(hc c h).2.2 (by omega);omega) I (by omega)
theorem mz.parts (h:mz cs (min 2 (l+1)) k): ∃c,cs[k]?=some c/\(∀Z,cM Z l (cs.take k))/\(∀Z,cM Z l (rgtC l (cs.drop k)))/\cy (cs.take k)<=486/\cy (rgtC l (cs.drop k))<=486/\1<=k/\k<cs.length:=by
 have hk:=h.k2;have wL:=h.l1;have iL:=h.l2;have I:=h.s2;obtain⟨c,t,hd⟩:∃c t,cs.drop k=c::t:=by
  cases q:cs.drop k with
  |nil=>have:=dg List.length q;rw[fA,b6] at this;omega
  |cons c t=>exact⟨c,t,U⟩
 have hlen:(cs.drop k).length=cs.length-k:=fA;refine⟨cs[k],aF hk,λZ => ?_,λZ => ?_,h.s1,?_,h.k1,hk⟩
 .unfold cM;split
  .exact G8 (by rw[cz];have:=h.k1;omega)
  .rw[cz];exact .inl (by omega)
 .unfold cM rgtC;split
  .rw[hd];simp
  .rw[hd] at hlen ⊢;simp only[aW] at hlen ⊢;exact .inl (by omega)
 .unfold rgtC;split
  .exact I
  .rw[hd] at I ⊢;simp only[cy,tot,gB,qg,aW,cz] at I ⊢;omega
end
def E4 (L:Nat)(cs:List (List Nat)): Nat:=if L=0 then 486 else 374*L+cy cs
def Mb (cs:List (List Nat)): Nat:=if 2<=cs.length then 0 else 1000000000
theorem T_ {a b:List (List Nat)}(h:a.length<=b.length): Mb b<=Mb a:=by
 unfold Mb;split<;>split<;>omega
def lam (L:Nat)(cs:List (List Nat)): Nat:=if L=0 then 486 else 374*L+cy cs+Mb cs
theorem bH.uniq {k' lk' e e':Nat}(h:bH b k lk e cs)(h':bH b k' lk' e' cs'): cs=cs':=by
 have hl:cs.length=cs'.length:=by rw[<-h.gu,<-h'.gu]
 apply nE ;intro i;cases hc:cs[i]? with
 |none=>rw[NI] at hc;rw[rF (by omega)]
 |some c =>
  have hi:=(List.getElem?_eq_some_iff.1 hc).1;have I:cs'[i]?=some (cs'[i]'(by omega)):=aF _;rw[I];obtain⟨_,_,s2,s3⟩:=h.slot i c hc;obtain⟨_,_,r2,r3⟩:=h'.slot i _ I;congr 1;apply nE;intro j;by_cases hj:j<c.length
  .rw[<-s3 j hj,<-r3 j (by omega)]
  .rw[rF (by omega),rF (by omega)]
theorem WZ {Z:List Nat}{P:Int->List Nat}{m z:Nat}(hN:Nv (cM Z) P l [] none cs es ps)(h1:1<=k)(hc:cs[k]?=some c)(u_:cM Z l (cs.take k))(Jg:cM Z l (rgtC l (cs.drop k)))
 (vg:bH (P' m) 204 0 l (cs.take k))(A7:bH (P' z) 204 0 l (rgtC l (cs.drop k)))(I:∀q∈ps,P' (q:Nat)=P q)(hm:m<4294967296)(hz:z<4294967296):
  ∃lU lV,ps=lU++lV/\Nv (cM Z) P' (l+1) [] none [e_ m [],e_ z (fE l c)] es (m::(lU++z::lV)):=by
 obtain⟨jH,gM,lU,lV,rfl,rfl,q1,q2,q3,_,q5,q6⟩:=hN.cut h1 hc;exact⟨lU,lV,U,Nv.two (q1.frame λq hq=>I q (fc _ hq)) u_ vg (q2.frame λq hq=>I q (js _ hq)) Jg A7 q3 ⟨q5,q6⟩ hm hz⟩
section
variable {told:cu} {YI YJ gv pv v1 vz:V} {vs:List V} {c':List Nat} {ds t:List (List Nat)}
theorem Js {v:V}{b d:Nat}(I:a<=b)(hb:b<=d)(hc:d<=c.length)(hl:1<=c.length): cC (og v c) (og (slR3 v a b d) ((c.take b).drop a)):=λ_ _ h=>ViewM.slice3 h I hb hc hl
theorem E5 (s:Sat h (og u c'::dy vs (c::t)::S)): Sat h (dy (vs.set 0 u) (c'::t)::S) :=
 s.two (aI.b8 _ _) (aI.qS _ _) λm r a b=>by
  cases vs with
  |nil=>exact b.elim
  |cons z vs=>exact⟨a,b.2⟩
theorem Mc {b d:Nat}{v:V}{l:List Nat}(hv:View h v l)(I:b<=d)(hc:d<=l.length)(hl:1<=l.length): sliceV Tryz.prog h 29 v none (some b) (some d)=some (slR3 v 0 b d):=by
 rw[<-uh (h:=h) hv (gh b) I hc hl];rcases hv.2 with⟨_,rfl⟩|⟨id,off,cap,n,cs,st,rfl,hg,h1,h2,h3,h4⟩
 .simp at hl
 .cases cap<;>simp only[sliceV,aP,fy,dz]
theorem W3 {t:TypeId}(hu:P.underlying t=some (.slice e))(hz:zeroT P e=some z)(hk:bq P e=some 1)(hl:z.cells.length=1)(I:u.cells=[u])(eG:storable u=true): buildSliceV P h t 1 [(0,u)]=some (.sl h.next 0 1 (.exact 1),h.new (.cells 1 [u] false)):=by
 have k1:u.cells.length=1:=by rw[I];rfl
 have k2:u.cells.all storable=true:=by rw[I];simp[eG]
 have:buildSliceV P h t 1 [(0,u)]=some (.sl h.next 0 1 (.exact 1),newRow h u.cells):=by
  grind[buildSliceV,repeatL,fillV,Nat.beq_refl,aS]
 rw[this,I];rfl
theorem Ua (I:WI told){y:Nat}{v:V}(s:Sat h (Cz v us::pt y (.cells 1 [u] false)::S))(hu:storable u=true)(hi:i<=us.length)(hl:us.length<=512):
  Call ⟨Tryz.prog,told⟩ 52 [v,.int .i64 (i:Int),.sl y 0 1 (.exact 1)] h λr h'=>Sat h' (.arr 1 r (c8 i u us)::S):=by
 rcases C6 hi with hi|rfl
 .exact(aam I s hu hi hl).mono λr h' s=>s.dM kY
 .have s:=(s.dM kY).ae [1];have s:Sat h (.arr 1 (.sl y 0 1 (.exact 1)) [u]::_):=s.dM λm r h=>⟨by simp[hu],.inr ⟨y,1,.exact 1,1,[],U,h,U,U,U,U,aH _⟩⟩;have s:=s.ae [1];have e:c8 us.length u us=us++[u]:=by simp[c8]
  rw[e];exact TY I s hl
theorem O7 (s:Sat h (og u c::dy us cs::S)): Sat h (dy (c8 i u us) (c8 i c cs)::S) :=
 s.two (aI.b8 _ _) (aI.qS _ _) λm r a b=>Av (CD i b) ⟨a,CE i b⟩
theorem um {P:Int->List Nat}: ∀ {fx:Fx} {l:Nat},(∀e∈fx,P' (e.2.pg:Int)=P e.2.pg)->nodsA P' l fx=nodsA P l fx:=by
 intro fx;induction fx with
 |nil=>intro l _;rfl
 |cons e t I =>
  intro l he;simp only[nodsA];rw[he e a_,I λe' h'=>he e' (bk _ h')]
theorem g_.YK {P:Int->List Nat}: ∀ {fs:List pz} {l:Nat} {lo:Ky} {hi:Option Ky} {n:Nat} {eL eR:List En} {pO:List Nat},g_ F P L r fs l lo hi n eL eR pO->∀f∈fs,f.pg∈pO:=by
 intro fs;induction fs with
 |nil=>intro _ _ _ _ _ _ _ _ f hf;cases hf
 |cons f fs ih =>
  rintro l lo hi n eL eR pO ⟨fX,eO,ni,ji,iT,kk,h1,_,_,_,_,_,_,_,_,_,_,rfl⟩ g I;rcases List.mem_cons.1 I with rfl|I
  .exact a_
  .exact bk _ (fc _ (ih h1 g I))
noncomputable def spC : Code:=dm [1,1,1,1,1,1,1,1,1,0] ((Tryz.f54.body).getD .skip)
theorem ack (hT:W told)(jX:∀c∈ds,iQ l c)(fG:1<=ds.length)(hl:l<=64){Q:Ex->List (Nat×V)->H->Prop}(s:Sat h (.arr 1 bv vs::dy vs ds::pt x (.cells 4 (vf n l YI YJ) false)::S))
 (hE:Has E [(0,gv),(1,pv),(7,.ptr x 0),(10,v1),(11,bv),(12,vz),(14,kv)])
 (hq:∀E' h' vs',Has E' [(0,gv),(1,pv),(7,.ptr x 0),(10,v1),(11,bv),(12,vz),(14,kv)]->Sat h' (.arr 1 bv vs'::dy vs' (rgtC l ds)::pt x (.cells 4 (vf n l YI YJ) false)::S)->Q .normal E' h'): WP ⟨Tryz.prog,told⟩ 196 spC E h Q:=by
 obtain⟨c,t,rfl⟩:∃c t,ds=c::t:=by
  cases ds with
  |nil=>simp at fG
  |cons c t=>exact⟨c,t,U⟩
 refine WP.has hE (zK 4 U (zY s 2 ew bP U ?_));by_cases h0:l=0
 .subst h0;refine zC U cA (by simp) ?_;refine zv (zj U (WP.skip ?_));exact hq _ _ vs ⟨U,U,U,U,U,U,U,aa⟩ s
 .have I:=jX c a_;rw[iQ,ai h0] at I;obtain⟨u,id,off,e1,e2,_,s⟩:=xP (P:=Tryz.prog) (i:=0) (jg _ _ _).s U aQ dP bS s;have hv:=s.aC (k:=2) U (bp _ _);have I0:=Mc (b:=4) (d:=4) hv (aH _) I (by omega);have s:=(s.ae [2]).dM (Js (a:=0) (b:=4) (d:=4) (by omega) (by omega) I (by omega));have Ek:=(s.aC (k:=0) U (bp _ _)).cells;have s:=s.ae [1];obtain⟨wH,Me,h2,e3,e4,s2⟩:=tc (P:=Tryz.prog) (i:=0) (x:=slR3 u 0 4 4) s (by have:=ko (s.ae [2]);simp only[aW] at this;omega) Ek.1 Ek.2 aQ dP;have s2:=E5 (s2.ae [1,1]);have s2:=s2.ae [1];refine zB U cA (by simp;omega) ?_;refine zk 5 U (zo U (bM (r:=.ptr id off) U U e1) (zl U e2 (zo U (bK (p:=none) (q:=some (.int .i64 4)) (m:=some (.int .i64 4)) (p':=none) (q':=some 4) (m':=some 4) U U U U U U U I0) (zo U (bM (r:=.ptr wH Me) U U e3) (zS U (⟨_,e4,s2⟩) ?_)))));intro h s;refine zv ?_;have hrg:rgtC l (c::t)=c.take 4::t:=by rw[rgtC,ai h0]
  exact hq _ _ (vs.set 0 (slR3 u 0 4 4)) ⟨U,U,U,U,U,U,U,aa⟩ (by rw[hrg];exact s)
end
section
variable {told:cu} {p root:Nat} {ot:List Nat}
def yp (L root:Nat)(P:Int->List Nat)(A:Nat)(cs:List (List Nat)): Fx->Prop
 |[]=>lam L cs<=A
 |_::_=>∀c,bH (P root) 204 0 L c->lam L c+104<=A
theorem yp.fin {A:Nat}{P:Int->List Nat}{c:List (List Nat)}{t:Fx}(h:yp L r P A cs t)(I:bH (P r) 204 0 L c)(he:t.map (·.2)=[]->c=cs): lam L c<=A:=by
 cases t with
 |nil=>rw[he U];exact h
 |cons e t=>exact cN (C8 _ _) (h c I)
theorem yp.up {A:Nat}{P:Int->List Nat}{c0:List (List Nat)}{t:Fx}(h:∀c,bH (P r) 204 0 L c->lam L c+104<=A)(hp:bH (P n) 204 0 l c0)(hr:t.map (·.2)=[]->l=L/\n=r)(hs:t.map (·.2)≠[]->P' r=P r)(hle:lam l cs<=lam l c0+104): yp L r P' A cs t:=by
 cases t with
 |nil =>
  obtain⟨rfl,rfl⟩:=hr U;exact cN hle (h c0 hp)
 |cons e t=>intro c I;rw[hs (by simp)] at I;exact h c I
theorem aaq (hi:i<=cs.length)(I:c.length<=100): lam l (c8 i c cs)<=lam l cs+104:=by
 unfold lam;split
 .omega
 .have:=T_ (a:=cs) (b:=c8 i c cs) (by rw[ki hi];omega);rw[cy,cy,wV,ki hi];omega
def SpR (N B g a p q r aR root:Nat)(data R ot:List Nat)(ε:bA)(now:List (Int×List Nat))(Z:List Nat)(A L:Nat)(es:List En)(gu nl:Nat)(S:List aE)(v:V)(h':H): Prop:=∃ah aN,EI N B ah/\Sm N ε ah/\NW N aN/\aN.length<=nl/\Sat h' (GA g a p q r data aR aN ah::S) /\
 ((v=.int .i64 7/\N<=gu)\/v=.int .i64 0/\∃M' L' cs' I,fU N R M' (pgG aN ah)/\jA N M' ((root::I)++ot)/\Nv (cM Z) (pgG aN ah) L' [] none cs' es I/\bH (pgG aN ah root) 204 0 L' cs'/\(L'<=L+1/\lam L' cs'<=A)/\∀m∈ot,pgG aN ah m=pgG now ε m)
theorem Sat.skip {A:aE}: ∀(k:Nat) {S:List aE},Sat h (A::S)->Sat h (A::S.drop k):=by
 intro k;induction k with
 |zero=>intro S s;exact s
 |succ k I=>intro S s;cases S with
  |nil=>exact s
  |cons B S=>exact I (S:=S) (s.del 1)
set_option maxHeartbeats 1000000 in
theorem W4 (hT:WI told)(hB:B<=2000)(hN:N<=2999): ∀(m:Nat) (fx:Fx) (l x n i:Nat) (lo:Ky) (hi:Option Ky) (eL eR:List En) (pO:List Nat) (cs GL:List (List Nat)) (b0:List Nat) (es:List En) (ps:List Nat) (v w:V) (us:List V) (ε:bA) (now:List (Int×List Nat)) (M:List Nat) (Z:List Nat) (A L:Nat) (h:H) (S:List aE),
  fx.length<m->EI N B ε->NW N now->fU N R M (pgG now ε)->jA N M ((pO++n::ps)++ot)->g_ (cM Z) (pgG now ε) L root (fx.map (·.2)) l lo hi n eL eR pO->Nv (cM Z) (pgG now ε) l lo hi cs es ps->486<cy cs->cy cs<=(if l=0 then 715 else 590)->fx.length+l=L->L<=60->yp L root (pgG now ε) A cs fx ->
  Sat h (GA g a p q r data aR now ε::roS 1 v us::dy us cs::wyA w (eT fx++[(x,i)])::aY x n l b0 GL::nodsA (pgG now ε) (l+1) fx::S) ->
  Call ⟨Tryz.prog,told⟩ 54 [.ptr g 0,w,v] h (SpR N B g a p q r aR root data R ot ε now Z A L (eL++es++eR) (((pO++n::ps)++ot).length+fx.length+3) (now.length+4*fx.length+7) S):=by
 have hW:=hT.w
 intro m
 induction m with
 |zero=>intro fx l x n i lo hi eL eR pO cs GL b0 es ps v w us ε now M Z A L h S hm;exact absurd hm (vL _)
 |succ m ih =>
  intro fx l x n i lo hi eL eR pO cs GL b0 es ps v w us ε now M Z A L h S hm cn hw gI jd nP jL Ce zE hL Mf hA s
  have fN:=jL.cells
  obtain⟨k0,Br⟩:=jL.aeZ Ce zE
  have ae0:=Br.k2
  have agp:=Br.k1
  have kR:cs.length<=512:=by
   have:cy cs<=715:=by split at zE<;>omega
   rw[kx] at this
   omega
  have uK:(eT fx).length=fx.length:=by rw[eT,jt,cf]
  have mh:(eT fx++[(x,i)]).length=fx.length+1:=by rw[aO,uK];rfl
  have s:=s.ae [3]
  obtain⟨id,off,e1,e2,_⟩:=J6 (P:=Tryz.prog) (j:=fx.length) (x:=x) (i:=i) eS lM (by rw[hU (by omega),uK,gK];rfl) s
  have AU:=CF (P:=Tryz.prog) s eS
  rw[mh] at AU
  have s:=s.ae [4]
  obtain⟨YI,YJ,us0,s⟩:=aU.1 s
  refine Call.of_wp (hW.free _ U) Tryz.func54 U U (zK 8 U (zo U (aD U U U AU) (zo U (aq (r:=.int .i64 (fx.length:Int)) U U (by rw[show((fx.length:Nat):Int)=((fx.length+1:Nat):Int)-1 by omega];exact dV ak)) ?_)))
  refine zo U (bM (r:=.ptr id off) U U e1) (zf U (jx _ _) (zl U (e2 _ fD) (zk 6 U (zY s 0 ew bP U (zo U (aq (r:=.int .i64 ((l+1:Nat):Int)) U U (by rw[show((l+1:Nat):Int)=(l:Int)+1 by omega];exact aL ak)) ?_)))))
  refine zo U (KO (r:=.int .i64 ((min 2 (l+1):Nat):Int)) U U (ab9.trans (by rw[show min (2:Int) ((l+1:Nat):Int)=((min 2 (l+1):Nat):Int) by omega]))) ?_
  have s:=s.ae [6,6]
  refine zk 6 U (zc U (Jn hW (cU _ _ _) (λc h=>(fN c h).2.1) kR (by omega) (by omega) s) ?_)
  rintro v0 h ⟨k,rfl,lB,ob,s⟩
  have hk:k≠0:=λe=>lB e k0 Br
  have nY:=ob hk
  obtain⟨ck,Bc,u_,Jg,ej,j3,lN,kW⟩:=nY.parts
  have qa:1<=(fE l ck).length/\(fE l ck).length<=96:=by
   obtain⟨_,_,_,_,_,_,_,_,_,_,q5,q6⟩:=jL.cut lN Bc
   exact⟨q5,q6⟩
  have oD:=jd.my n (by simp)
  refine zk 6 U (zC U dK (by simp;omega) ?_)
  refine zk 4 U ?_
  have oo:=ko (s.ae [1])
  have z0:=s
  have g1:=xR (P:=Tryz.prog) (b:=k) (s.jo (j:=0) U (cU _ _ _)) (by omega) lN aQ dP
  have g2:=J5 (P:=Tryz.prog) (a:=k) (s.jo (j:=0) U (cU _ _ _)) (by omega) aQ dP
  obtain⟨v1,f1,s⟩:=QT (P:=Tryz.prog) (b:=k) s (by omega) lN aQ dP
  obtain⟨v2,f2,s⟩:=Yy (P:=Tryz.prog) (a:=k) (s.ae [1]) (by omega) aQ dP
  rw[g1] at f1
  rw[g2] at f2
  cases f1
  cases f2
  have TW:=(ku (s.jo (j:=1) U (cU _ _ _))).2.2
  have lB:=(ku (s.jo (j:=2) U (cU _ _ _))).2.2
  have ob:=(ku (s.jo (j:=0) U (cU _ _ _))).2.2
  refine WP.drawn [some (0,2),some (0,2),some (0,2),some (0,2),af,af,af,af,af,af] U (by kernel_rfl) (by kernel_rfl) ?_
  refine zM U (zM U (zM U (zO U (bK (p:=none) (q:=some (.int .i64 (k:Int))) (m:=some (.int .i64 (k:Int))) (p':=none) (q':=some k) (m':=some k) U U U U U (by rw[bN];rfl) (by rw[bN];rfl) (xR (s.jo (j:=1) U (cU _ _ _)) (by omega) lN aQ dP)) ?_)))
  refine zM U (zM U (zO U (bK (p:=some (.int .i64 (k:Int))) (q:=none) (m:=none) (p':=some k) (q':=none) (m':=none) U U U U (by rw[bN];rfl) U U (J5 (s.jo (j:=1) U (cU _ _ _)) (by omega) aQ dP)) ?_))
  have z0:=s
  refine aB.any U U U U (OpR.call U U U U (mY hW s (cU _ _ _) (by rw[fA];omega))) ?_
  intro cv h s
  have z1:=s.ae [1,1]
  dsimp only[bringA,getA,aM] at z1
  refine zA U (zA U ?_)
  refine aB.nil ⟨⟨λ_ _=>.inr ⟨U,⟨_,b7 U⟩,TW⟩,λ_ _=>.inr ⟨U,⟨_,b7 U⟩,bx _ U⟩,λ_ _=>.inr ⟨U,⟨_,b7 U⟩,bx _ U⟩,gF (.inr ⟨U,⟨_,bK (p:=none) (q:=some (.int .i64 (k:Int))) (m:=some (.int .i64 (k:Int))) (p':=none) (q':=some k) (m':=some k) U U U U U (by rw[bN];rfl) (by rw[bN];rfl) (xR (z0.jo (j:=1) U (cU _ _ _)) (by omega) lN aQ dP)⟩,lB⟩) (.inr ⟨U,⟨_,bK (p:=none) (q:=some (.int .i64 (k:Int))) (m:=some (.int .i64 (k:Int))) (p':=none) (q':=some k) (m':=some k) U U U U U (by rw[bN];rfl) (by rw[bN];rfl) (xR (z1.jo (j:=1) U (cU _ _ _)) (by omega) lN aQ dP)⟩,lB⟩),aa,aa,aa,aa,aa,aa,aa⟩,?_⟩
  refine zK 3 U ?_
  have s:=L6 k (s.ae [4])
  have s:=L7 k (s.ae [1])
  have s:=((s.del 5).del 4).del 1
  have s:=s.ae [9]
  refine zc U (CC hW hB cn hw gI jd s) ?_
  rintro v0 h ⟨c_,n_,b1,b2,b3,b4,s1,(⟨rfl,rfl,vD⟩|⟨z,M1,rfl,c1,c2,c3,c4,c5,c6⟩)⟩
  .skip
   refine zk 10 U (zB U aG (by decide) ?_)
   exact zk 7 U (WP.ret ⟨aa,_,U,c_,_,b1,b2,b3,by omega,s1.skip 10,.inl ⟨U,by omega⟩⟩)
  refine zk 10 U (zC U aG (U) ?_)
  have s:=s1.ae [3,0,3,0,1,0]
  obtain⟨y,rfl,eG,s⟩:=EV s (by rw[fA];omega)
  refine zk 7 U (zY s 2 ew bP U (zm U (zo U (cO (r:=.agg [.int .i64 ((0:Nat):Int),.int .i64 (l:Int),.aZ,.sl y 0 (us.drop k).length (.rest 1 0)]) U (by rw[Qb];rfl)) ?_)))
  refine au.cj s U U U (fC U (by rfl)) ?_
  intro x2 h s
  have s:=CA (by rw[fA];omega) eG (s.ae [1])
  have s:=s.ae [1,0,2]
  have W5:(cs.drop k)[0]?=some ck:=by rw[fq,eF];exact Bc
  obtain⟨CG,acm,_⟩:=fN ck (aJ Bc)
  refine zc U (WV hW (i:=0) (λm r h=>(jg _ _ _).s m r (kY m r h)) W5 CG (by omega) acm s) ?_
  intro kv h s
  refine zc U (si hW s (bp _ _) (by have:=acm;unfold fE;split<;>simp<;>omega)) ?_
  intro cut h s
  have s:=(((s.del 2).del 1).ae [1]).dM kY
  have s:=s.ae [0,1,2]
  refine zk 3 U (ack hW (λc hc=>(fN c (i_ hc)).1) (by rw[fA];omega) (by omega) s ⟨U,U,U,U,U,U,U,aa⟩ λE' h' vs' dY s' => ?_)
  have s:=s'
  refine WP.has dY ?_
  have s:=s.ae [4]
  refine zK 7 U (zY s 3 ew bP U (zm U (zc U (mX hW hB b1 b3 c2 (jg _ _ _).s j3 (by omega) s) ?_)))
  rintro v0 h ⟨iJ,bz,rfl,d1,d2,d3,d4,s⟩
  have j5:∀q:Int,pgG (cD (z:Int) bz n_) iJ q=if (z:Int)=q then bz else pgG n_ c_ q:=λq=>by rw[eY,gN d2]
  have acn:fU N R M1 (pgG (cD (z:Int) bz n_) iJ):=c4.frame (by rw[j5,ai (by omega)]) (by rw[j5,ai (by omega)])
  have DN:=CF (P:=Tryz.prog) (s.ae [10]) eS
  rw[mh] at DN
  have W6:=gz (i:=(z:Int)) (b:=bz) (now:=n_)
  generalize afZ:cD (z:Int) bz n_=mG at s j5 acn d3 W6
  refine zk 5 U (zC U aG (U) (zk 7 U (zo U (aD U U U DN) ?_)))
  cases fx with
  |nil =>
   obtain⟨rfl,rfl,rfl,rfl,rfl,rfl,rfl⟩:=nP
   refine zB U dK (by simp) ?_
   refine zk 5 U (zc U (CC hW hB d1 d3 acn c5 s) ?_)
   rintro v0 h ⟨kI,I,g1,g2,g3,g4,s1,(⟨rfl,rfl,vD⟩|⟨z2,M2,rfl,k1,k2,k3,k4,k5,k6⟩)⟩
   .skip
    refine zk 10 U (zB U aG (by decide) ?_)
    exact zk 7 U (WP.ret ⟨aa,_,U,kI,_,g1,b2.trans (d2.trans g2),g3,by omega,s1.skip 11,.inl ⟨U,by simp only[aW] at vD ⊢;omega⟩⟩)
   refine zk 10 U (zC U aG (U) ?_)
   have s:=s1.ae [0,4,4,2,2]
   refine zk 10 U (zY s 3 ew bP U (zm U (zc U (mX hW hB g1 g3 k2 (cU _ _ _) ej (by omega) s) ?_)))
   rintro v0 h ⟨rC,bm,rfl,m1,m2,m3,m4,s⟩
   have oa:∀q:Int,pgG (cD (z2:Int) bm I) rC q=if (z2:Int)=q then bm else pgG I kI q:=λq=>by rw[eY,gN m2]
   have Mg:=gz (i:=(z2:Int)) (b:=bm) (now:=I)
   generalize YL:cD (z2:Int) bm I=o6 at s oa m3 Mg
   refine zk 5 U (zC U aG (U) (zk 4 U ?_))
   have z0:=s
   have Ec:=nR (s.aC (k:=4) U (bh _ _))
   refine WP.drawn [some (0,4),some (0,4),some (0,4),some (0,4),some (0,4),some (0,4),some (0,4),some (0,4),some (0,4),some (0,4),none,none,some (0,2),some (0,2),af,af,af,af] U (by kernel_rfl) (by kernel_rfl) ?_
   refine zM U (zM U (zN U (zF U (iA _ _) (zL U (s.ld (k:=3) U bP U) (zM U (zN U (zF U (ew _ _) (zL U (s.ld (k:=3) U bP U) (zO U (aq U U (by exact aL ak)) ?_)))))))))
   refine zM U (aB.any U U U U (OpR.call U U U U (zW hW (m:=z2) (by omega) (s.gJ (φ:=True) aa) O5 (by decide))) ?_)
   intro u1 h s
   have s:=(s.ff.del 1).ae [0,4]
   have z1:=s
   refine zM U (zM U (aB.any U U U U (OpR.call U U U U (zW hW (m:=z) (by omega) (s.ae [1]) (bh _ _) (by omega))) ?_))
   intro u2 h s
   have s:=(s.ff.del 1).ae [1,0]
   have Mh:=s
   have Yt:=(s.aC (k:=0) U (bp _ _)).cells
   have hu2:=(s.aC (k:=1) U (bp _ _)).cells
   obtain⟨z7,h1,e3,s1⟩:=O4 (P:=Tryz.prog) (x:=u1) (y:=u2) s aQ lK dP U Yt.1 hu2.1 Yt.2 hu2.2
   refine aB.any U U U U (OpR.of (R:=λv h'=>v=z7/\h'=h1) (je U e3) ⟨U,U⟩) ?_
   rintro z7 h ⟨rfl,rfl⟩
   have z3:=s1
   have s:=(s1.ae [1,1]).two (C:=dy [u1,u2] [e_ z2 [],e_ z (fE l ck)]) (aI.b8 _ _) (aI.b8 _ _) λa b q1 q2=>⟨q1,q2,aa⟩
   have s:=s.ae [2,1]
   refine aB.any U U U U (OpR.call U U U U (mX (n:=n) (l:=l+1) hW hB m1 m3 oD.2 (jg _ _ _).s (by rw[kx];simp[tot,e_,cQ];omega) (by omega) s)) ?_
   rintro v0 h ⟨Mi,bn,rfl,n1,n2,n3,n4,s⟩
   have E6:∀q:Int,pgG (cD (n:Int) bn o6) Mi q=if (n:Int)=q then bn else pgG o6 rC q:=λq=>by rw[eY,gN n2]
   have ae1:=gz (i:=(n:Int)) (b:=bn) (now:=o6)
   generalize af0:cD (n:Int) bn o6=CH at s E6 n3 ae1
   refine zA U ?_
   refine aB.nil ⟨⟨λ_ _=>.inr ⟨U,⟨_,b7 U⟩,bx _ U⟩,λ_ _=>.inr ⟨U,⟨_,b7 U⟩,bx _ U⟩,λ_ _=>.inr ⟨U,⟨_,vr U⟩,bx _ U⟩,λ_ _=>.inr ⟨U,⟨_,m9 U (iA _ _)⟩,bx _ U⟩,BR (.inr ⟨U,⟨_,o_load U (z0.ld (k:=3) U bP U)⟩,bx _ U⟩) (.inr ⟨U,⟨_,o_load U (z1.ld (k:=5) U bP U)⟩,bx _ U⟩) (.inr ⟨U,⟨_,o_load U (Mh.ld (k:=5) U bP U)⟩,bx _ U⟩) (.inr ⟨U,⟨_,o_load U (z3.ld (k:=6) U bP U)⟩,bx _ U⟩),λ_ _=>.inr ⟨U,⟨_,b7 U⟩,bx _ U⟩,λ_ _=>.inr ⟨U,⟨_,vr U⟩,bx _ U⟩,λ_ _=>.inr ⟨U,⟨_,m9 U (ew _ _)⟩,bx _ U⟩,BR (.inr ⟨U,⟨_,o_load U (z0.ld (k:=3) U bP U)⟩,bx _ U⟩) (.inr ⟨U,⟨_,o_load U (z1.ld (k:=5) U bP U)⟩,bx _ U⟩) (.inr ⟨U,⟨_,o_load U (Mh.ld (k:=5) U bP U)⟩,bx _ U⟩) (.inr ⟨U,⟨_,o_load U (z3.ld (k:=6) U bP U)⟩,bx _ U⟩),λ_ _=>.inr ⟨U,⟨_,aq U U (by exact aL ak)⟩,bx _ U⟩,aa,aa,λ_ _=>.inr ⟨U,⟨_,b7 U⟩,bx _ U⟩,λ_ _=>.inr ⟨U,⟨_,b7 U⟩,Ec⟩,aa,aa,aa,aa,aa⟩,?_⟩
   refine WP.ret ⟨aa,_,U,?_⟩
   have hP:∀q:Int,q≠1->q≠(z:Int)->q≠(z2:Int)->q≠(n:Int)->pgG CH Mi q=pgG now ε q:=λq h1 h2 h3 h4=>by
    rw[E6,ai (λe=>h4 e.symm),oa,ai (λe=>h3 e.symm),k6 q h1 h3,j5,ai (λe=>h2 e.symm),c6 q h1 h2]
   have fB:=jd.nd
   simp only[dL,fJ,oO,nH,not_or] at fB
   have D6:z∉ps/\z∉ot/\z≠n:=by simpa[not_or,and_assoc,and_comm,and_left_comm] using c3
   have K4:z2∉ps/\z2∉ot/\z2≠n/\z2≠z:=by
    simp only[dL,fJ,gd,nH,not_or] at k3
    exact⟨k3.2.2.1,k3.2.2.2,k3.2.1,k3.1⟩
   have hold:∀q:Nat,q∈ps\/q∈ot->pgG CH Mi q=pgG now ε q:=λq hq=>by
    have hr:=jd.my q (by simp only[dL,fJ,gd,nH];exact .inr hq)
    refine hP q (by omega) (λe => ?_) (λe => ?_) (λe => ?_)
    .have:q=z:=by omega
     subst this
     rcases hq with q|q
     .exact D6.1 q
     .exact D6.2.1 q
    .have:q=z2:=by omega
     subst this
     rcases hq with q|q
     .exact K4.1 q
     .exact K4.2.1 q
    .have:q=n:=by omega
     subst this
     rcases hq with q|q
     .exact fB.1.1 q
     .exact fB.1.2 q
   have hbz:pgG CH Mi (z:Int)=bz:=by
    rw[E6,ai (by omega),oa,ai (by omega),k6 _ (by omega) (by omega),j5,ay U]
   have hbm:pgG CH Mi (z2:Int)=bm:=by
    rw[E6,ai (by omega),oa,ay U]
   obtain⟨lU,lV,rfl,wW⟩:=WZ (Z:=Z) (P':=pgG CH Mi) (m:=z2) (z:=z) jL lN Bc (u_ Z) (Jg Z) (by rw[hbm];exact m4.f) (by rw[hbz];exact d4.f) (λq hq=>hold q (.inl hq)) (by omega) (by omega)
   refine⟨Mi,CH,n1,b2.trans (d2.trans (g2.trans (m2.trans n2))),n3,by omega,s.skip 12,.inr ⟨U,M2,l+1,_,z2::(lU++z::lV),k4.frame ?_ ?_,k5.perm ?_,by simpa using wW,?_,⟨aH _,?_⟩,λq hq=>hold q (.inr hq)⟩⟩
   .rw[E6,ai (by omega),oa,ai (by omega)]
   .rw[E6,ai (by omega),oa,ai (by omega)]
   .rw[lY]
    intro q
    simp only[dL,fJ,l7,lZ]
    omega
   .rw[E6,ay U]
    exact n4.f
   .have hA:lam l cs<=A:=hA
    refine cN ?_ hA
    have rS:∀a b:List Nat,Mb [a,b]=0:=λ_ _=>U
    simp only[lam,rS,cy,tot,e_,aO,cQ,aW,b6,gB,Dc,qg,List.sum_nil]
    rw[ai (by omega)]
    unfold cy at Ce
    split<;>omega
  |cons e t =>
   refine zC U dK (by simp;omega) ?_
   have s:=s.ae [0,4,4,2,2,5,5]
   dsimp only[V.cells,List.length_cons,List.length_nil,Nat.reduceAdd,bringA,getA,aM] at s
   refine zk 5 U (WP.drawn [af,af,af,af,af,af,af,af,af,af,af,af] U (by kernel_rfl) (by kernel_rfl) ?_)
   refine zM U (zM U (zN U (zF U (iA _ _) (zL U (s.ld (k:=3) U bP U) (zM U (zN U (zF U (ew _ _) (zL U (s.ld (k:=3) U bP U) (zM U (aB.any U U U U (OpR.call U U U U (mX (n:=n) (l:=l) hW hB d1 d3 oD.2 (cU _ _ _) ej (by omega) s)) ?_))))))))))
   rintro v0 h ⟨kI,bn,rfl,g1,g2,g3,g4,s⟩
   have oa:∀q:Int,pgG (cD (n:Int) bn mG) kI q=if (n:Int)=q then bn else pgG mG iJ q:=λq=>by rw[eY,gN g2]
   have ae2:=gz (i:=(n:Int)) (b:=bn) (now:=mG)
   generalize af1:cD (n:Int) bn mG=I at s oa g3 ae2
   refine zA U ?_
   refine aB.nil ⟨⟨aa,aa,aa,aa,aa,aa,aa,aa,aa,aa,aa,aa,aa⟩,?_⟩
   refine zK 3 U (zC U aG (U) ?_)
   have s:=s.ae [5]
   have Ip:(eT t).length=t.length:=by rw[eT,jt,cf]
   have sL:(eT (e::t)++[(x,i)])[t.length]?=some (e.1,e.2.i):=by
    rw[rB,dN,hU (by omega),Ip,gK]
    rfl
   obtain⟨tq,qD,y1,_,y3⟩:=J6 (P:=Tryz.prog) eS lM sL s
   have YM:=CF (P:=Tryz.prog) s eS
   rw[mh] at YM
   refine zk 7 U (zo U (aD U U U YM) (zo U (aq (r:=.int .i64 (t.length:Int)) U U (by rw[show((t.length:Nat):Int)=(((e::t).length+1:Nat):Int)-2 by simp only[aW];omega];exact dV ak)) ?_))
   refine zo U (bM (r:=.ptr tq qD) U U y1) (zl U (y3 HN) ?_)
   refine au.cj s U U U (cm Qa) (λp20 h s => ?_)
   refine zS U (s.gZ (j:=0) U lM U U) (λh s => ?_)
   refine zk 5 U (zc U (zW hW (m:=z) (by omega) (s.ae [6]) (bh _ _) (by omega)) ?_)
   intro kc h s
   have s:=((((((((s.ff.del 1).del 12).del 11).del 10).del 9).del 8).del 6).del 5).del 4
   have s:=s.ae [4]
   dsimp only[V.cells,List.length_cons,List.length_nil,Nat.reduceAdd,bringA,getA,aM,setA] at s
   have s:=vG.1 s
   obtain⟨bve,YN,use,s⟩:=aU.1 s
   have s:=s.ae [0,5,1,1,0,1]
   dsimp only[bringA,getA,aM] at s
   -- what lies on the pages
   have hP3:∀q:Int,q≠1->q≠(z:Int)->q≠(n:Int)->pgG I kI q=pgG now ε q:=λq h1 h2 h3=>by
    rw[oa,ai (λe=>h3 e.symm),j5,ai (λe=>h2 e.symm),c6 q h1 h2]
   have fB:=jd.nd
   rw[dN,mJ] at fB
   have yq:=fB.2.1
   rw[fJ,oO] at yq
   have hold:∀q:Nat,q∈pO\/q∈ps\/q∈ot->pgG I kI q=pgG now ε q:=λq hq=>by
    have hm:q∈(pO++n::ps)++ot:=by
     simp only[nH,gd]
     rcases hq with q|q|q
     .exact .inl (.inl q)
     .exact .inl (.inr (.inr q))
     .exact .inr q
    have hr:=jd.my q hm
    refine hP3 q (by omega) (λe => ?_) (λe => ?_)
    .have:q=z:=by omega
     subst this
     exact c3 hm
    .have:q=n:=by omega
     subst this
     rcases hq with q1|q1
     .exact fB.2.2 q q1 q (by simp) U
     .exact yq.1 (List.mem_append.2 q1)
   have hbz:pgG I kI (z:Int)=bz:=by
    have:z≠n:=λe=>c3 (by simp[e])
    rw[oa,ai (by omega),j5,ay U]
   have hbn:pgG I kI (n:Int)=bn:=by rw[oa,ay U]
   obtain⟨jH,gM,lU,lV,rfl,rfl,u1,u2,u3,u4,u5,u6⟩:=jL.cut lN Bc
   have ae3:=g_.frame (P':=pgG I kI) nP λq hq=>hold q (.inl hq)
   obtain⟨fX,eO,ni,ji,iT,Yu,nj,r1,r2,r3,r4,r5,r6⟩:=g_.two ae3 (u1.frame λq hq=>hold q (.inr (.inl (fc _ hq)))) (u_ Z) (by rw[hbn];exact g4.f) (u2.frame λq hq=>hold q (.inr (.inl (js _ hq)))) (Jg Z) (by rw[hbz];exact d4.f) u3 u4 ⟨u5,u6⟩ (n2:=z) (by omega)
   dsimp only at r1 r2 r3 r4 r5 r6
   have ae4:e.2.pg∈pO:=by
    obtain⟨_,_,_,_,_,_,_,_,_,_,_,_,_,_,_,_,_,hp⟩:=nP
    rw[hp]
    exact a_
   have FC:bH (pgG now ε (e.2.pg:Int)) 204 0 (l+1) (bF e.2.ks):=by rw[<-hold e.2.pg (.inl ae4)];exact r5
   have tZ:jA N M1 ((iT++e.2.pg::nj)++ot):=c5.perm (by
    rw[lY] at r4 ⊢
    intro q
    have:=r4 q
    simp only[lZ,l7] at this ⊢
    omega)
   have Mj:=tZ.nd
   rw[dN,mJ] at Mj
   have W7:=Mj.2.1
   rw[fJ,oO] at W7
   have Gr:=tZ.my e.2.pg (by simp)
   have aco:∀q:Nat,q∈iT->q≠e.2.pg:=λq hq e2=>Mj.2.2 q hq e.2.pg (by simp) e2
   have ae5:∀q:Nat,q∈nj->q≠e.2.pg:=λq hq e2=>W7.1 (by rw[<-e2];exact fc _ hq)
   have hgt:∀q:Nat,q∈ot->q≠e.2.pg:=λq hq e2=>W7.1 (by rw[<-e2];exact js _ hq)
   have sZ:=dn (ks:=e.2.ks)
   have hkz:(e_ z (fE l ck)).length=4+(fE l ck).length:=by simp[e_,cQ]
   have hA:∀c,bH (pgG now ε root) 204 0 L c->lam L c+104<=A:=hA
   have O8:root∈pO:=by
    rcases nP.rt with⟨q,_⟩|⟨_,q⟩
    .cases q
    .exact q
   have GM:t.map (·.2)=[]->l+1=L/\e.2.pg=root:=λq=>by
    rcases r1.rt with⟨_,q2⟩|⟨q2,_⟩
    .exact q2
    .exact absurd q q2
   have ae6:t.map (·.2)≠[]->root∈iT:=λq=>by
    rcases r1.rt with⟨q2,_⟩|⟨_,q2⟩
    .exact absurd q2 q
    .exact q2
   have Mk:lam (l+1) (c8 (e.2.i+1) (e_ z (fE l ck)) (bF e.2.ks))<=lam (l+1) (bF e.2.ks)+104:=aaq (by omega) (by omega)
   refine zk 3 U ?_
   have s:=s.ae [4,4]
   dsimp only[bringA,getA,aM] at s
   refine WP.drawn [af,af,af,af,af,af,af,af,af,af,af,af,af,af,af] U (by kernel_rfl) (by kernel_rfl) ?_
   refine zF U (jx _ _) (zL U (s.ld (k:=3) U fD U) (zN U (zF U (nT _ _) (zL U (s.ld (k:=2) U bS U) (zF U (sJ _ _) (zL U (s.ld (k:=3) U bP U) (zO U (aq (r:=.int .i64 ((e.2.i+1:Nat):Int)) U U (by rw[show((e.2.i+1:Nat):Int)=(e.2.i:Int)+1 by omega];exact aL (ak (by omega) (by have:=FC.fits;rw[sZ] at this;omega)))) ?_)))))))
   refine zM U (aB.any U U U U (OpR.call U U U U (LJ hW (i:=e.2.i+1) s (bp _ _) (bp _ _) FC (by omega) (by omega))) ?_)
   rintro v0 h (⟨dx,ub,b',rfl,uL,s⟩|⟨vD,rfl,s⟩)
   .skip
    refine zM U (zO U (gP U U) (zO U (gP U U) (zA U (zA U ?_))))
    refine aB.nil ⟨⟨aa,aa,aa,aa,aa,aa,aa,aa,aa,aa,aa,aa,aa,aa,aa,aa⟩,?_⟩
    refine zK 5 U (WP.block (zg U (zB U dK (U) (zk 6 U (zY s 4 jx fD U (zn U (zY s 3 iA bP U (zm U (zc U (wZ hW hB g1 g3 Gr.2 (s.ae [9]) (bh _ _) uL.good) ?_)))))))))
    rintro v0 h ⟨rC,rfl,w1,w2,w3,s⟩
    have CI:∀q:Int,pgG (cD (e.2.pg:Int) b' I) rC q=if (e.2.pg:Int)=q then b' else pgG I kI q:=λq=>by rw[eY,gN w2]
    have Mg:=gz (i:=(e.2.pg:Int)) (b:=b') (now:=I)
    generalize YL:cD (e.2.pg:Int) b' I=o6 at s CI w3 Mg
    refine zk 2 U (WP.ret ⟨aa,_,U,?_⟩)
    have r1':=r1.frame (P':=pgG o6 rC) λq hq=>by
     have:=aco q hq
     rw[CI,ai (by omega)]
    have r2':=r2.frame (P':=pgG o6 rC) λq hq=>by
     have:=ae5 q hq
     rw[CI,ai (by omega)]
    obtain⟨GN,cs',t1,t2,t3,t4⟩:=g_.QO r1' r2' (by rw[CI,ay U];exact uL) (λ_=>by
     unfold cM
     rw[ai (by omega),ki (by omega),sZ]
     exact .inl (by omega))
    rw[r3] at t1
    refine⟨rC,o6,w1,b2.trans (d2.trans (g2.trans w2)),w3,by omega,s.skip 9,.inr ⟨U,M1,L,cs',GN,c4.frame ?_ ?_,tZ.perm (t3.symm.append_right ot),t1,t2,⟨by omega,(yp.up (P':=pgG o6 rC) (t:=t) hA FC GM (λq=>by rw[CI,ai (by have:=aco root (ae6 q);omega)];exact hold root (.inl O8)) Mk).fin t2 t4⟩,λq hq => ?_⟩⟩
    .rw[CI,ai (by omega),oa,ai (by omega),j5,ai (by omega)]
    .rw[CI,ai (by omega),oa,ai (by omega),j5,ai (by omega)]
    .have:=hgt q hq
     rw[CI,ai (by omega),hold q (.inr (.inr hq))]
   .skip
    refine zM U (zO U (gP U U) (zO U (gP U U) (zA U (zA U ?_))))
    refine aB.nil ⟨⟨aa,aa,aa,aa,aa,aa,aa,aa,aa,aa,aa,aa,aa,aa,aa,aa⟩,?_⟩
    refine zK 5 U (WP.block (zg U (zC U dK (U) (zk 5 U (zB U dK (U) (zk 4 U ?_))))))
    have agq:=ko (s.ae [5])
    have agr:e.2.ks.length<=512:=by have:=FC.fits;omega
    have tj:=(s.aC (k:=1) U (bp _ _))
    have Ub:=nR tj
    have Gc:=s.adM (j:=7) (b:=t.length+1) U
    have GO:(eT (e::t)++[(x,i)]).length=t.length+2:=mh
    have z0:=s
    refine WP.abr [some (0,4),some (0,4),some (0,4),some (0,4),some (0,4),some (0,4),af,af,af,af,af,af,some (0,3),some (0,3),some (0,3),some (0,2),af,af,af,af] U (by kernel_rfl) (by kernel_rfl) ?_
    refine zM U (zM U (zM U (zO U (aD (r:=.int .i64 ((t.length+2:Nat):Int)) U U U (by rw[<-GO];exact s.AR (j:=7) U eS)) ?_)))
    refine zO U (aq (r:=.int .i64 ((t.length+1:Nat):Int)) U U (by rw[show((t.length+1:Nat):Int)=((t.length+2:Nat):Int)-1 by omega];exact dV ak)) ?_
    refine zO U (bK (p:=none) (q:=some (.int .i64 ((t.length+1:Nat):Int))) (m:=none) (p':=none) (q':=some (t.length+1)) (m':=none) U U U U U (by rw[bN];rfl) U (s.AS (j:=7) U (b:=t.length+1) eS lM (by omega))) ?_
    refine zF U (jx _ _) (zL U (s.ld (k:=3) U fD U) (zN U (zF U (cP _ _) (zL U (s.ld (k:=2) U gx U) (aB.any U U U U (OpR.call U U U U (mY hW (s.ae [4]) (cU _ _ _))) ?_)))))
    intro cl h s
    have s:=s.ae [0,0,1,2,2,1,1,1]
    dsimp only[aM,bringA,getA] at s
    have z1:=s
    refine zF U (sJ _ _) (zL U (s.ld (k:=3) U bP U) (zO U (aq (r:=.int .i64 ((e.2.i+1:Nat):Int)) U U (by rw[show((e.2.i+1:Nat):Int)=(e.2.i:Int)+1 by omega];exact aL ak)) ?_))
    refine zM U (aB.any U U U U (OpR.of (R:=λv h'=>v=.sl h.next 0 1 (.exact 1)/\h'=h.new (.cells 1 [kc] false)) (je U (W3 aQ lK dP U tj.cells.1 tj.cells.2)) ⟨U,U⟩) ?_)
    rintro v' h' ⟨rfl,rfl⟩
    have s:=s.new (.cells 1 [kc] false)
    have Mh:=s.ae [0,0,0,0,0,0,0,1]
    dsimp only[bringA,getA,aM] at Mh
    refine aB.any U U U U (OpR.call U U U U (Ua hT (s.ae [1]) tj.cells.2 (by omega) (by omega))) ?_
    intro iv h s
    have z3:=s
    have s:=(s.ae [4]).dup (aI.qS _ _)
    dsimp only[aM,bringA] at s
    have s:=O7 (i:=e.2.i+1) (s.ae [4,0])
    dsimp only[aM,bringA] at s
    have s:=((s.ae [2]).r8).dM GB
    dsimp only[aM,bringA] at s
    have s:=s.ae [5,7,3,2]
    dsimp only[bringA,getA,aM] at s
    have s:Sat h (aY e.1 e.2.pg (l+1) (pgG now ε e.2.pg) (bF e.2.ks)::_):=aU.2 ⟨bve,YN,use,s⟩
    have s:=L8 (b:=t.length+1) (by omega) (by omega) (s.ae [5])
    dsimp only[aM,bringA] at s
    have qx:(eT (e::t)++[(x,i)]).take (t.length+1)=eT t++[(e.1,e.2.i)]:=by
     rw[rB,fY (by rw[aO,Ip];rfl)]
    rw[qx,<-um (P':=pgG I kI) (fx:=t) λe' sA=>hold e'.2.pg (.inl (nP.YK e'.2 (bk _ (oK sA))))] at s
    have s:=(s.del 4).ae [5,2,2,0,0,0]
    dsimp only[aM,bringA,getA] at s
    have IB:tot (c8 (e.2.i+1) (e_ z (fE l ck)) (bF e.2.ks))=tot (bF e.2.ks)+(e_ z (fE l ck)).length:=wV
    have xw:(c8 (e.2.i+1) (e_ z (fE l ck)) (bF e.2.ks)).length=e.2.ks.length+1:=by rw[ki (by omega),sZ]
    have hft:=FC.fits
    refine aB.any U U U U (OpR.call U U U U (ih t (l+1) e.1 e.2.pg e.2.i fX eO ni ji iT _ _ _ Yu nj iv _ _ kI I M1 Z A L h S (by simp only[aW] at hm;omega) g1 g3 (c4.frame (by rw[oa,ai (by omega),j5,ai (by omega)]) (by rw[oa,ai (by omega),j5,ai (by omega)])) tZ r1 r2 (by rw[kx,IB,xw];omega) (by rw[ai (by omega),kx,IB,xw];omega) (by simp only[aW] at hL;omega) Mf (yp.up (P':=pgG I kI) hA FC GM (λ_=>hold root (.inl O8)) Mk) s)) ?_
    rintro v0 h ⟨rC,o6,w1,w2,w3,w4,s,uR⟩
    refine zA U ?_
    refine aB.nil ⟨⟨⟨λ_ _=>.inr ⟨U,⟨_,b7 U⟩,bx _ U⟩,λ_ _=>.inr ⟨U,⟨_,b7 U⟩,Gc.1⟩,λ_ _=>.inr ⟨U,⟨_,b7 U⟩,Gc.1⟩,BR (.inr ⟨U,⟨_,aD (r:=.int .i64 ((t.length+2:Nat):Int)) U U U (by rw[<-GO];exact z0.AR (j:=7) U eS)⟩,bx _ U⟩) (.inr ⟨U,⟨_,aD (r:=.int .i64 ((t.length+2:Nat):Int)) U U U (by rw[<-GO];exact z1.AR (j:=7) U eS)⟩,bx _ U⟩) (.inr ⟨U,⟨_,aD (r:=.int .i64 ((t.length+2:Nat):Int)) U U U (by rw[<-GO];exact Mh.AR (j:=7) U eS)⟩,bx _ U⟩) (.inr ⟨U,⟨_,aD (r:=.int .i64 ((t.length+2:Nat):Int)) U U U (by rw[<-GO];exact z3.AR (j:=7) U eS)⟩,bx _ U⟩),λ_ _=>.inr ⟨U,⟨_,aq (r:=.int .i64 ((t.length+1:Nat):Int)) U U (by rw[show((t.length+1:Nat):Int)=((t.length+2:Nat):Int)-1 by omega];exact dV ak)⟩,bx _ U⟩,BR (.inr ⟨U,⟨_,bK (p:=none) (q:=some (.int .i64 ((t.length+1:Nat):Int))) (m:=none) (p':=none) (q':=some (t.length+1)) (m':=none) U U U U U (by rw[bN];rfl) U (z0.AS (j:=7) U (b:=t.length+1) eS lM (by omega))⟩,Gc.2⟩) (.inr ⟨U,⟨_,bK (p:=none) (q:=some (.int .i64 ((t.length+1:Nat):Int))) (m:=none) (p':=none) (q':=some (t.length+1)) (m':=none) U U U U U (by rw[bN];rfl) U (z1.AS (j:=7) U (b:=t.length+1) eS lM (by omega))⟩,Gc.2⟩) (.inr ⟨U,⟨_,bK (p:=none) (q:=some (.int .i64 ((t.length+1:Nat):Int))) (m:=none) (p':=none) (q':=some (t.length+1)) (m':=none) U U U U U (by rw[bN];rfl) U (Mh.AS (j:=7) U (b:=t.length+1) eS lM (by omega))⟩,Gc.2⟩) (.inr ⟨U,⟨_,bK (p:=none) (q:=some (.int .i64 ((t.length+1:Nat):Int))) (m:=none) (p':=none) (q':=some (t.length+1)) (m':=none) U U U U U (by rw[bN];rfl) U (z3.AS (j:=7) U (b:=t.length+1) eS lM (by omega))⟩,Gc.2⟩),aa,aa,aa,aa,aa,aa,λ_ _=>.inr ⟨U,⟨_,m9 U (sJ _ _)⟩,bx _ U⟩,BN (.inr ⟨U,⟨_,o_load U (z0.ld (k:=3) U bP U)⟩,bx _ U⟩) (.inr ⟨U,⟨_,o_load U (z1.ld (k:=3) U bP U)⟩,bx _ U⟩) (.inr ⟨U,⟨_,o_load U (Mh.ld (k:=4) U bP U)⟩,bx _ U⟩),λ_ _=>.inr ⟨U,⟨_,aq (r:=.int .i64 ((e.2.i+1:Nat):Int)) U U (by rw[show((e.2.i+1:Nat):Int)=(e.2.i:Int)+1 by omega];exact aL ak)⟩,bx _ U⟩,λ_ _=>.inr ⟨U,⟨_,b7 U⟩,Ub⟩,aa,aa,aa,aa,aa⟩,.inl U,.inl U,.inl U,.inl U,.inl U,.inl U,.inl U,.inl U,.inl U,.inl U,.inl U,.inl U,.inl U,.inl U,.inl U,.inl U,.inr U,.inl U,.inl U,.inl U,aa⟩,?_⟩
    refine WP.ret ⟨aa,_,U,?_⟩
    refine⟨rC,o6,w1,b2.trans (d2.trans (g2.trans w2)),w3,by simp only[aW];omega,s,?_⟩
    rw[r3] at uR
    rcases uR with⟨q,q2⟩|⟨q,M',L',cs',GN,y1,y2,y3,y4,y5,y6⟩
    .exact .inl ⟨q,by
      have Iw:=r4.length_eq
      simp only[aO,aW] at Iw q2 ⊢
      omega⟩
    .exact .inr ⟨q,M',L',cs',GN,y1,y2,y3,y4,y5,λm hm=>(y6 m hm).trans (hold m (.inr (.inr hm)))⟩
end
end Go.Proofs.YtdonpgpfplgigaaGreat.Am
