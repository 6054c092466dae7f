/- TreeKept: a part of its proof; conditions: its statement's. -/
import Derived.Test.YtdonpgpfplgigaaGreatL05
import Derived.Shelf.Spec.SlicesInsertGrow
import Derived.Deep.RegionLaw
import Derived.Lib.AppendZerosOnto
import Derived.Laws.NewBlocks
import Derived.Test.YtdonpgpfplgigaaGreatL02
set_option linter.defProp false
namespace Go.Proofs.YtdonpgpfplgigaaGreat.Am
open Go Go.Lib
def fo:=@Tryz.underlying89
def wm:=@Tryz.func52
def I8:=@Tryz.func116
def I9:=@Tryz.func32
variable {ts:Array TypeId} {X Y:aI} {C:fB} {code:Code} {d:pQ} {ε aj:bw} {A:bw→aI} {pg:bw→Int→List Nat} {lv dd:bw→Prop} {Q:Ex→List (Nat×V)→H→Prop} {fn:Func} {h:H} {P':Int→List Nat} {lo:Ky} {now:List (Int×List Nat)} {cs:List (List Nat)} {E:List (Nat×V)} {S:List aI} {es mg eL eR:List En} {ks:List gR} {Ch:List gR→Nat→Prop} {c b R M ps M' data pO was ot:List Nat} {us args caps:List V} {N B k id off i x a n l kd link extra j qm g q r bA L K tx bf:Nat} {F:Nat→List (List Nat)→Prop} {ox oy:Operand} {hi:Option Ky} {P:Program} {α:Type} {t te t' e:TypeId} {rv y u z bv cv w kv vv pv:V}
set_option maxHeartbeats 4000000 in
set_option maxRecDepth 100000 in
theorem Qk (b off n c i vb I m vc:Nat)(cs vs:List Value)(w:World)(hi:i<n)(hm:0<m)(pK:n+m≤c)(BH:n+m≤9223372036854775807)(xS:vb≠b)(ff:cs.length=n)(xT:vs.length=m)
 (ko:∀j v,cs[j]?=some v→w.cell? ⟨b,off+j,none⟩=some v)(jW:∀j,j<n+m→(w.cell? ⟨b,off+j,none⟩).isSome=true)(tf:∀j,j<n+m→w.frozen? ⟨b,off+j,none⟩=false)
 (UU:∀j v,vs[j]?=some v→w.cell? ⟨vb,I+j,none⟩=some v)(LO:∀v∈cs,v.oneCell'=true)(LP:∀v∈vs,v.oneCell'=true)
 (tA tB:TypeId)(kA kB:Nat)(hsa:w.shape? vb=some (tA,kA))(UI:w.shape? b=some (tB,kB))(hkB:kB≠0)(Xj:w.frozen? ⟨vb,I,none⟩=false)(hfe:w.frozen? ⟨vb,kA,none⟩=false):
  Calls Tryz.prog 52 #[.slice (some ⟨b,off,none⟩) n c,.int .i64 i,.slice (some ⟨vb,I,none⟩) m vc] w fun e w' =>
   e=.returned (.slice (some ⟨b,off,none⟩) (n+m) c)∧w'=(w.drew.setCells b (off+(i+m)) (cs.drop i)).setCells b (off+i) vs:=by
 have Bt:¬ ((m:Int)=0):=by omega
 have Ir:¬ ((i:Int)=(n:Int)):=by omega
 have fM:(Tryz.prog.info? 29).map (·.size)=some 1:=by kernel_rfl
 have hov:∀lb cb,(callFunc 128 #[.slice (some ⟨vb,I,none⟩) m vc,.slice (some ⟨b,off+(i+m),none⟩) lb cb]).run Tryz.prog w=.ok (.value (.bool false)) w:=fun lb cb=>by
  rw[run_callFunc_extern Tryz.func128 (by kernel_rfl) (by kernel_rfl) (by kernel_rfl) (e:=Extern.SlicesOverlaps.overlaps #[98,98] #[4]) (by kernel_rfl),
   Lib.run_overlaps_apart w 98 4 29 bh 1 (fun w=>Tryz.sizeOf29 w) ⟨vb,I,none⟩ ⟨b,off+(i+m),none⟩ m vc lb cb xS tA tB kA kB hsa UI hkB Xj hfe]
  rfl
 have Lf:(cs.drop i).length=n-i:=by rw[gi,ff]
 have HA:IntKind.i64.wrap ((i:Int)+(m:Int))=(i:Int)+(m:Int):=by rw[IntKind.wrap_i64];omega
 have m6:(0:Int)≤(i:Int)+(m:Int):=by omega
 have zP:i≤n:=by omega
 have htn:((i:Int)+(m:Int)).toNat=i+m:=by omega
 have nX:¬ (c=i+m):=by omega
 have hb3:(i:Int)≤(n:Int)+(m:Int):=by omega
 have hb4:¬ (c=i):=by omega
 have Za:∀ty dc sc,(Builtin.copy_ #[98,98] ty #[.slice (some ⟨b,off+(i+m),none⟩) (n+m-(i+m)) dc,.slice (some ⟨b,off+i,none⟩) (n+m-i) sc]).run Tryz.prog w.drew=.ok (goInt (cs.drop i).length) (w.drew.setCells b (off+(i+m)) (cs.drop i)):=fun ty dc sc =>
  run_copy_cells w.drew _ _ ty 29 b (off+(i+m)) (n+m-(i+m)) dc ⟨b,off+i,none⟩ (n+m-i) sc (cs.drop i) bh fM (by rw[Lf];simp only[AG];split<;>omega)
   (fun j v hj=>by rw[Addr.add_lit,lK];exact ko (i+j) v (by rwa [eA] at hj))
   (fun j hj=>by rw[lK];exact jW _ (by omega)) (fun j hj=>by rw[lK];exact tf _ (by omega)) (fun v hv=>LO v (gF hv))
 obtain⟨W1,J⟩:∃W1,W1=w.drew.setCells b (off+(i+m)) (cs.drop i):=⟨_,rfl⟩
 have Fk:∀k,k<n+m→(W1.cell? ⟨b,off+k,none⟩).isSome=true:=fun k hk=>by
  rw[J]
  exact isSome_setCells b _ _ _ (fun j hj=>by rw[lK];exact jW _ (by omega)) _ (jW k hk)
 have ab1:∀(W:World),(∀x,W.cell? x=W1.cell? x)→(∀x,W.frozen? x=W1.frozen? x)→∀ty dc,(Builtin.copy_ #[98,98] ty #[.slice (some ⟨b,off+i,none⟩) (n+m-i) dc,.slice (some ⟨vb,I,none⟩) m vc]).run Tryz.prog W=.ok (goInt vs.length) (W.setCells b (off+i) vs):=fun W Gq Ql ty dc =>
  run_copy_cells W _ _ ty 29 b (off+i) (n+m-i) dc ⟨vb,I,none⟩ m vc vs bh fM (by rw[xT];simp only[AG];split<;>omega)
   (fun j v hj=>by
    rw[Addr.add_lit,Gq,J,World.cell?_setCells_out b _ _ _ _ (fun h _=>absurd h xS)]
    exact UU j v hj)
   (fun j hj=>by rw[Gq,lK];exact Fk _ (by omega)) (fun j hj=>by rw[Ql,J,World.frozen?_setCells,lK];exact tf _ (by omega)) LP
 rw[←J] at Za
 go_enter wm,Tryz.ntmps52
 go_wp2_with (simp only[hov])
 go_region_law (refine step_copy_runI rfl _ _ 98 98 rfl _ _ (by simp[Act.eval,Act.put]) (by simp[Act.eval,Act.put]) (Za _ _ _) ?_)
 go_wp2_with (at_builtin;refine wpList_copy_runI _ rfl _ _ 98 98 rfl _ _ rfl rfl (ab1 _ (fun _=>rfl) (fun _=>rfl) _ _) ?_)
 go_ret
 first|exact⟨rfl,rfl⟩|exact⟨rfl,by rw[J]⟩
end Go.Proofs.YtdonpgpfplgigaaGreat.Am
namespace Go.Proofs.YtdonpgpfplgigaaGreat.Am
open Go Go.Lib
variable {ts:Array TypeId} {X Y:aI} {C:fB} {code:Code} {d:pQ} {ε aj:bw} {A:bw→aI} {pg:bw→Int→List Nat} {lv dd:bw→Prop} {Q:Ex→List (Nat×V)→H→Prop} {fn:Func} {h:H} {P':Int→List Nat} {lo:Ky} {now:List (Int×List Nat)} {cs:List (List Nat)} {E:List (Nat×V)} {S:List aI} {es mg eL eR:List En} {ks:List gR} {Ch:List gR→Nat→Prop} {c b R M ps M' data pO was ot:List Nat} {us args caps:List V} {N B k id off i x a n l kd link extra j qm g q r bA L K tx bf:Nat} {F:Nat→List (List Nat)→Prop} {ox oy:Operand} {hi:Option Ky} {P:Program} {α:Type} {t te t' e:TypeId} {rv y u z bv cv w kv vv pv:V}
set_option maxHeartbeats 4000000 in
set_option maxRecDepth 100000 in
theorem Tg (b off n c i vb Nx m vc:Nat)(cs vs:List Value)(w:World)(hi:i<n)(hm:0<m)(YF:n≤c)(pK:c<n+m)(Iw:(n+m)*24≤140737488355328)(ff:cs.length=n)(xT:vs.length=m)
 (ko:∀j v,cs[j]?=some v→w.cell? ⟨b,off+j,none⟩=some v)
 (UU:∀j v,vs[j]?=some v→w.cell? ⟨vb,Nx+j,none⟩=some v)(LO:∀v∈cs,v.oneCell'=true)(LP:∀v∈vs,v.oneCell'=true):
  Calls Tryz.prog 52 #[.slice (some ⟨b,off,none⟩) n c,.int .i64 i,.slice (some ⟨vb,Nx,none⟩) m vc] w fun e w' =>
   ∃G I,n+m≤G∧e=.returned (.slice (some ⟨w.heap.size,0,none⟩) (n+m) G)∧I.size=G ∧
   w'=(((w.drew.alloc (.cells I 29)).setCells w.heap.size i vs).drew).setCells w.heap.size (i+m) (cs.drop i)∧∀j v,cs[j]?=some v→j<i→I[j]?=some v:=by
 have Bt:¬ ((m:Int)=0):=by omega
 have Ir:¬ ((i:Int)=(n:Int)):=by omega
 have hz3:(c:Int)<(n:Int)+(m:Int):=by omega
 obtain⟨i0,DJ,vN,Ub,hzb⟩:∃i0,Tryz.prog.info? 29=some i0∧i0.zero=some (.slice none 0 0)∧i0.size=1∧i0.bytes=24:=by
  have h:(Tryz.prog.info? 29).map (fun i=>(i.zero,i.size,i.bytes))=some (some (.slice none 0 0),1,24):=by kernel_rfl
  cases h2:Tryz.prog.info? 29 with
  |none=>rw[h2] at h;cases h
  |some i0 =>
   rw[h2] at h
   simp only[fQ,aD,bG] at h
   exact⟨i0,rfl,h⟩
 have fM:(Tryz.prog.info? 29).map (·.size)=some 1:=by rw[DJ];simp[Ub]
 have Qm:b<w.heap.size:=block_lt_of_cell (ko 0 _ (aG (by omega)))
 have hvw:vb<w.heap.size:=block_lt_of_cell (UU 0 _ (aG (by omega)))
 have xU:(n:Int)+(m:Int)-(i:Int)=((n+m-i:Nat):Int):=by omega
 have Ue:i+(n+m-i)=n+m:=by omega
 have hold:(Builtin.firstCells i0.size i (.slice (some ⟨b,off,none⟩) i c)).run Tryz.prog w.drew=.ok (cs.take i).toArray w.drew:=by
  rw[Ub]
  exact run_firstCells_some w.drew 1 i ⟨b,off,none⟩ i c (cs.take i) (by rw[cj];omega) (fun j v J=>by
   rw[Addr.add_lit]
   rw[gh] at J
   split at J
   ·exact ko j v J
   ·cases J)
 have UW:∀ty,(Builtin.append_ #[98,3] ty #[.slice (some ⟨b,off,none⟩) i c,.int .i64 ((n:Int)+(m:Int)-(i:Int))]).run Tryz.prog w =
   .ok (.slice (some ⟨w.heap.size,0,none⟩) (n+m) (grownCap w (n+m) c 29)) (w.drew.alloc (.cells ((cs.take i).toArray++Builtin.zeroCells (Value.slice none 0 0).cells (n+m-i)++Builtin.zeroCells (Value.slice none 0 0).cells (grownCap w (n+m) c 29-(n+m))) 29)):=fun ty=>by
  have h:=Lib.run_append_grow_zeros w 98 3 ty 29 i0 _ .i64 .i64 bh bP DJ vN (some ⟨b,off,none⟩) i c (cs.take i) hold (n+m-i) (by omega) (by omega) (by omega) (by omega) (by rw[hzb];omega) (by rw[hzb,Ue];exact growslice_fits pK Iw)
  rw[Ue] at h
  rw[xU]
  exact h
 have hGn:n+m≤grownCap w (n+m) c 29:=grownCap_ge w _ _ _
 have ab2:grownCap w (n+m) c 29≤9223372036854775807:=by
  have:=grownCap_le_maxLen w (n+m) c 29 (by unfold maxLen;omega)
  unfold maxLen at this
  omega
 obtain⟨G,hG⟩:∃G,G=grownCap w (n+m) c 29:=⟨_,rfl⟩
 obtain⟨I,Ny⟩:∃I:Array Value,I=(cs.take i).toArray++Builtin.zeroCells (Value.slice none 0 0).cells (n+m-i)++Builtin.zeroCells (Value.slice none 0 0).cells (G-(n+m)):=⟨_,rfl⟩
 rw[←hG] at UW hGn ab2
 rw[←Ny] at UW
 have hRs:I.size=G:=by
  rw[Ny]
  simp[Builtin.zeroCells,Value.cells]
  omega
 have Qn:n+m≤I.size:=by omega
 have hRt:∀j v,cs[j]?=some v→j<i→I[j]?=some v:=fun j v h J=>by
  have hl:j<(cs.take i).length:=by rw[cj];omega
  rw[Ny,Array.append_assoc,Array.getElem?_append_left (by simpa using hl),nB,Ed J,h]
 obtain⟨W1,LQ⟩:∃W1,W1=w.drew.alloc (.cells I 29):=⟨_,rfl⟩
 rw[←LQ] at UW
 have hN:∀j,j<n+m→(W1.cell? ⟨w.heap.size,j,none⟩).isSome=true:=fun j J=>by
  rw[LQ,World.cell?_alloc_at (w:=w.drew) I _ w.heap.size j rfl,Al (by omega)];rfl
 have hNf:∀j,W1.frozen? ⟨w.heap.size,j,none⟩=false:=fun j=>by rw[LQ];exact World.frozen?_alloc_at (w:=w.drew) I _ w.heap.size j rfl
 have hOb:∀j v,w.cell? ⟨b,j,none⟩=some v→W1.cell? ⟨b,j,none⟩=some v:=fun j v h=>by rw[LQ,World.cell?_alloc_past (w:=w.drew) _ b j Qm];exact h
 have hOv:∀j v,w.cell? ⟨vb,j,none⟩=some v→W1.cell? ⟨vb,j,none⟩=some v:=fun j v h=>by rw[LQ,World.cell?_alloc_past (w:=w.drew) _ vb j hvw];exact h
 have ab3:∀(W:World),(∀x,W.cell? x=W1.cell? x)→(∀x,W.frozen? x=W1.frozen? x)→∀ty dc,(Builtin.copy_ #[98,98] ty #[.slice (some ⟨w.heap.size,i,none⟩) (n+m-i) dc,.slice (some ⟨vb,Nx,none⟩) m vc]).run Tryz.prog W=.ok (goInt vs.length) (W.setCells w.heap.size i vs):=fun W Gq Ql ty dc =>
  run_copy_cells W _ _ ty 29 w.heap.size i (n+m-i) dc ⟨vb,Nx,none⟩ m vc vs bh fM (by rw[xT];simp only[AG];split<;>omega)
   (fun j v J=>by rw[Addr.add_lit,Gq];exact hOv _ v (UU j v J))
   (fun j J=>by rw[Gq];exact hN _ (by omega)) (fun j J=>by rw[Ql];exact hNf _) LP
 have hGi:¬ (G=i):=by omega
 have adH:¬ (G=i+m):=by omega
 have uK:¬ (c=i):=by omega
 have hbN:b≠w.heap.size:=by omega
 have Lf:(cs.drop i).length=n-i:=by rw[gi,ff]
 have Zb:∀(W:World),(∀x,W.cell? x=(W1.setCells w.heap.size i vs).cell? x)→(∀x,W.frozen? x=(W1.setCells w.heap.size i vs).frozen? x)→∀ty dc sc,(Builtin.copy_ #[98,98] ty #[.slice (some ⟨w.heap.size,i+m,none⟩) (n+m-(i+m)) dc,.slice (some ⟨b,off+i,none⟩) (n-i) sc]).run Tryz.prog W=.ok (goInt (cs.drop i).length) (W.setCells w.heap.size (i+m) (cs.drop i)):=fun W Gq Ql ty dc sc =>
  run_copy_cells W _ _ ty 29 w.heap.size (i+m) (n+m-(i+m)) dc ⟨b,off+i,none⟩ (n-i) sc (cs.drop i) bh fM (by rw[Lf];simp only[AG];split<;>omega)
   (fun j v J=>by
    rw[Addr.add_lit,Gq,World.cell?_setCells_out _ _ _ _ _ (fun h _=>absurd h hbN),lK]
    exact hOb _ v (ko (i+j) v (by rwa [eA] at J)))
   (fun j J=>by rw[Gq];exact isSome_setCells _ _ _ _ (fun t ht=>hN _ (by omega)) _ (hN _ (by omega)))
   (fun j J=>by rw[Ql,World.frozen?_setCells];exact hNf _) (fun v hv=>LO v (gF hv))
 subst LQ
 have hE1:∀x,((w.alloc (.cells I 29)).drew).cell? x=(w.drew.alloc (.cells I 29)).cell? x:=fun x=>rfl
 have Zc:∀x,((w.alloc (.cells I 29)).drew).frozen? x=(w.drew.alloc (.cells I 29)).frozen? x:=fun x=>rfl
 have hF1:∀x,(((w.alloc (.cells I 29)).drew.setCells w.heap.size i vs).drew).cell? x=((w.drew.alloc (.cells I 29)).setCells w.heap.size i vs).cell? x:=fun x=>rfl
 have hF2:∀x,(((w.alloc (.cells I 29)).drew.setCells w.heap.size i vs).drew).frozen? x=((w.drew.alloc (.cells I 29)).setCells w.heap.size i vs).frozen? x:=fun x=>rfl
 have HA:IntKind.i64.wrap ((i:Int)+(m:Int))=(i:Int)+(m:Int):=by rw[IntKind.wrap_i64];omega
 have m6:(0:Int)≤(i:Int)+(m:Int):=by omega
 have zP:i≤n:=by omega
 have htn:((i:Int)+(m:Int)).toNat=i+m:=by omega
 have hb3:(i:Int)≤(n:Int):=by omega
 clear xU Ue hold Ny hG Qn
 have mixed:Tryz.prog.follows .mixedOrders=true:=zG
 refine Calls.mono (R:=fun e w'=>e=.returned (.slice (some ⟨w.heap.size,0,none⟩) (n+m) G)∧w'=(((w.alloc (.cells I 29)).drew.setCells w.heap.size i vs).drew).setCells w.heap.size (i+m) (cs.drop i)) ?_ (fun e w' h=>⟨G,I,hGn,h.1,hRs,h.2,hRt⟩)
 go_enter wm,Tryz.ntmps52
 go_wp2_with (first
  |(at_builtin;refine Lib.wpList_append_run _ rfl _ _ _ _ rfl _ _ rfl rfl _ _ (UW _) ?_)
  |(at_builtin;refine wpList_copy_runI _ rfl _ _ 98 98 rfl _ _ rfl rfl (ab3 _ hE1 Zc _ _) ?_)
  |(at_builtin;refine wpList_copy_runI _ rfl _ _ 98 98 rfl _ _ rfl rfl (Zb _ (fun _=>rfl) (fun _=>rfl) _ _ _) ?_))
 go_region_law_o (refine step_copy_runI rfl _ _ 98 98 rfl (.slice (some ⟨w.heap.size,i+m,none⟩) (n+m-(i+m)) (G-(i+m))) (.slice (some ⟨b,off+i,none⟩) (n-i) (c-i)) (by simp[Act.eval,Act.put]) (by simp[Act.eval,Act.put]) (Zb _ hF1 hF2 3 (G-(i+m)) (c-i)) ?_)
 go_wp2
 go_ret
 exact⟨rfl,rfl⟩
end Go.Proofs.YtdonpgpfplgigaaGreat.Am
namespace Go.Proofs.YtdonpgpfplgigaaGreat.Am
open Go
variable {ts:Array TypeId} {X Y:aI} {C:fB} {code:Code} {d:pQ} {ε aj:bw} {A:bw→aI} {pg:bw→Int→List Nat} {lv dd:bw→Prop} {Q:Ex→List (Nat×V)→H→Prop} {fn:Func} {h:H} {P':Int→List Nat} {lo:Ky} {now:List (Int×List Nat)} {cs:List (List Nat)} {E:List (Nat×V)} {S:List aI} {es mg eL eR:List En} {ks:List gR} {Ch:List gR→Nat→Prop} {c b R M ps M' data pO was ot:List Nat} {us args caps:List V} {N B k id off i x a n l kd link extra j qm g q r bA L K tx bf:Nat} {F:Nat→List (List Nat)→Prop} {ox oy:Operand} {hi:Option Ky} {P:Program} {α:Type} {t te t' e:TypeId} {rv y u z bv cv w kv vv pv:V}
def Sm (N:Nat)(ε aj:bw): Prop:=(∀m,pgA aj m=pgA ε m)∧(∀P:VP,rT N P→vw P ε→vw P aj)∧cR aj≤cR ε
theorem Sm.refl (N:Nat)(ε:bw): Sm N ε ε:=⟨fun _=>rfl,fun _ _ h=>h,aM _⟩
theorem Sm.trans {a b c:bw}(h:Sm N a b)(g:Sm N b c): Sm N a c:=⟨fun m=>(g.1 m).trans (h.1 m),fun P I hv=>g.2.1 P I (h.2.1 P I hv),cX g.2.2 h.2.2⟩
structure kf (told : cy) (N B : Nat) (rv : V) (A : bw → aI) (pg : bw → Int → List Nat) : Prop where
 iface : ∃ ty u f, rv = .iface ty u ∧ methV Tryz.prog ty "Read" = some f ∧ ∀ {h : H} {S : List aI} {ε : bw} {n : Int}, EI N B ε → 0 ≤ n → n < N → Sat h (A ε :: S) →
  Call ⟨Tryz.prog, told⟩ f [u, .int .i64 n] h fun v h' => ∃ w aj, v = .aW [w, .int .i64 0] ∧ EI N B aj ∧ Sm N ε aj ∧ Sat h' (aQ w (pg ε n) :: A aj :: S)
 same : ∀ {ε aj : bw}, Sm N ε aj → ∀ m, pg aj m = pg ε m
structure I_ (told : cy) (N : Nat) (lv dd : bw → Prop) (sm : bw → bw → Prop) (rv : V) (A : bw → aI) (pg : bw → Int → List Nat) : Prop where
 iface : ∃ ty u f, rv = .iface ty u ∧ methV Tryz.prog ty "Read" = some f ∧ ∀ {h : H} {S : List aI} {ε : bw} {n : Int}, lv ε → 0 ≤ n → n < N → Sat h (A ε :: S) →
  Call ⟨Tryz.prog, told⟩ f [u, .int .i64 n] h fun v h' => (∃ aj, v = .aW [.aV, .int .i64 9] ∧ dd aj ∧ Sat h' (A aj :: S)) ∨ ∃ w aj, v = .aW [w, .int .i64 0] ∧ lv aj ∧ sm ε aj ∧ Sat h' (aQ w (pg ε n) :: A aj :: S)
 same : ∀ {ε aj : bw}, sm ε aj → ∀ m, pg aj m = pg ε m
 tr : ∀ {a b c : bw}, sm a b → sm b c → sm a c
abbrev noD : bw→Prop:=fun _=>False
theorem kf.m {told:cy}(I:kf told N B rv A pg): I_ told N (EI N B) noD (Sm N) rv A pg:=by
 obtain⟨ty,u,f,e,hm,J⟩:=I.iface
 exact⟨⟨ty,u,f,e,hm,fun a b c s=>(J a b c s).mono fun _ _ k=>.inr k⟩,I.same,Sm.trans⟩
section
variable {v c:V} {cs:List V}
theorem Sat.z6 (s:Sat h S)(J:getA S k=some (.arr 1 v cs))(hi:cs[i]?=some c)(hu:P.underlying t=some (.slice te))(I:bg P te=some 1)(e:indexAddrV P t v (.int .i64 (i:Int))=some (.ptr id off))(ha:isAggT P t'=some false): loadV P h t' (.ptr id off)=some c:=by
 grind[jg]
theorem s8 {s d:TypeId}{x:Operand}{r:V}{h₁:H}(I:bq E x=some v)(J:convV P h s d v=none)(h2:convB P h s d v=some (r,h₁)): opE P E h (.convert s d x)=some (r,h₁):=by
 grind[opE,jL]
end
def ij : List Nat:=[109,117,110,105,109,101,110,116]
theorem Th : buildSliceV Tryz.prog h 29 8 [(0,.int .u8 109),(1,.int .u8 117),(2,.int .u8 110),(3,.int .u8 105),(4,.int .u8 109),(5,.int .u8 101),(6,.int .u8 110),(7,.int .u8 116)]=some (.sl h.next 0 8 (.exact 8),newRow h (ofBytes ij)):=by
 simp only[buildSliceV,ak,d_,oC,V.cells]
 rfl
theorem Bg {x y:Operand}{b:Nat}(I:0<b)(hw:a<9223372036854775808): binV P h .quo t x y (.int .i64 (a:Int)) (.int .i64 (b:Int))=some (.int .i64 ((a/b:Nat):Int)):=by
 simp only[binV,ikBeq,ag,intV]
 have:intBeq (b:Int) 0=false:=by rw[pX];simp;omega
 have J:a/b≤a:=Nat.div_le_self a b
 grind[ay]
section
variable {told:cy} {v x:V} {l:List Nat} {sm:bw→bw→Prop}
theorem Ja (J:W told)(s:Sat h S): Call ⟨Tryz.prog,told⟩ 99 [] h fun r h'=>Sat h' (.bK r ij::S):=by
 refine Call.of_wp (J.free _ rfl) Tryz.func99 rfl rfl (zK 6 rfl (aA.any rfl rfl rfl (OpR.of (R:=fun v h'=>v=.sl h.next 0 8 (.exact 8)∧h'=newRow h (ofBytes ij)) (gI rfl Th) ⟨rfl,rfl⟩) ?_))
 rintro v I ⟨rfl,rfl⟩
 have s1:Sat (newRow h (ofBytes ij)) (pt h.next (.cells 8 (ofBytes ij) false)::S):=s.new _
 generalize newRow h (ofBytes ij)=I at s1
 generalize h.next=id at s1
 have hg:=s1.row (k:=0) rfl
 have e1:convB Tryz.prog I 29 29 (.sl id 0 8 (.exact 8))=some (.sl id 0 8 (.exact 8),I.put id (some (.cells 8 (ofBytes ij) true))):=by
  simp only[convB,ak,Tryz.underlying5,hg]
  rfl
 have e0:convV Tryz.prog I 29 29 (.sl id 0 8 (.exact 8))=none:=by
  simp only[convV,ak]
 have s2:Sat (I.put id (some (.cells 8 (ofBytes ij) true))) (pt id (.cells 8 (ofBytes ij) true)::S):=s1.put (k:=0) rfl
 have s3:Sat (I.put id (some (.cells 8 (ofBytes ij) true))) (.bK (.sl id 0 8 (.exact 8)) ij::S):=s2.freeze.dG (B:=.bK (.sl id 0 8 (.exact 8)) ij) fun m r hm=>⟨by decide,.inr ⟨id,0,.exact 8,8,_,true,rfl,hm,rfl,by decide,rfl,by decide⟩⟩
 refine aA.any rfl rfl rfl (OpR.of (R:=fun v h'=>v=.sl id 0 8 (.exact 8)∧h'=I.put id (some (.cells 8 (ofBytes ij) true))) (s8 rfl e0 e1) ⟨rfl,rfl⟩) ?_
 rintro v h2 ⟨rfl,rfl⟩
 exact zk 2 rfl (WP.ret ⟨aa,_,rfl,s3⟩)
theorem Gr (J:W told)(hx:View h x l)(hy:View h y c): Call ⟨Tryz.prog,told⟩ 118 [x,y] h fun r h'=>r=.bool (decide (l=c))∧h'=h:=by
 refine Call.of_wp (J.free _ rfl) Tryz.func118 rfl rfl (zK 7 rfl (zo rfl (b8 rfl (uE hx)) (zm rfl (zo rfl (b8 rfl (uE hy)) ?_))))
 by_cases I:l=c
 ·skip
  exact zB rfl ML (decide_eq_true I) (zk 2 rfl (WP.ret ⟨aa,_,rfl,by rw[dy I],rfl⟩))
 ·skip
  exact zC rfl ML (decide_eq_false I) (zk 2 rfl (WP.ret ⟨aa,_,rfl,by rw[eM I],rfl⟩))
theorem DL (I:W told)(J:1≤n)(h2:n≤3000): Call ⟨Tryz.prog,told⟩ 90 [.int .i64 (n:Int)] h fun r h'=>r=.int .i64 2∧h'=h:=by
 have e:(n+2999)/3000=1:=by omega
 refine Call.of_wp (I.free _ rfl) Tryz.func90 rfl rfl (zK 7 rfl (zb rfl (by exact aO (ay (by omega) (by omega))) ?_))
 refine zb rfl (by exact ei (ay (by omega) (by omega))) ?_
 refine zo rfl (az (r:=.int .i64 (((n+2999)/3000:Nat):Int)) rfl rfl (by rw[show(n:Int)+3000-1=((n+2999:Nat):Int) by omega];exact Bg (by decide) (by omega))) ?_
 rw[e]
 refine zb rfl (by exact aO (ay (by omega) (by omega))) ?_
 exact zk 2 rfl (WP.ret ⟨aa,_,rfl,rfl,rfl⟩)
theorem Ww (hT:W told)(hR:I_ told N lv dd sm rv A pg)(dL:lv ε)(hN:1≤N)(hp:dX (pg ε 0) 201 n extra [ij,R])(Qn:R.length=64)(s:Sat h (A ε::S)):
  Call ⟨Tryz.prog,told⟩ 163 [rv] h fun v h'=>(∃aj,v=.aW [.aV,.int .i64 0,.bool false,.int .i64 9]∧Sat h' (A aj::S)∧dd aj)∨∃u aj,v=.aW [u,.int .i64 (n:Int),.bool true,.int .i64 0]∧lv aj∧sm ε aj∧Sat h' (aQ u R::A aj::S):=by
 obtain⟨ty,u,f,rfl,hm,jK⟩:=hR.iface
 refine Call.of_wp (hT.free _ rfl) Tryz.func163 rfl rfl (zK 10 rfl (aA.any rfl rfl rfl (OpR.invoke rfl rfl rfl hm rfl (jK dL (by decide) (by omega) s)) ?_))
 rintro v h (⟨aj,rfl,hd,s⟩|⟨u,aj,rfl,BL,hs,s⟩)
 ·skip
  refine zk 10 rfl (zB rfl aN (by decide) ?_)
  exact zk 10 rfl (WP.ret ⟨aa,_,rfl,.inl ⟨aj,rfl,s,hd⟩⟩)
 refine zk 10 rfl (zC rfl aN (rfl) (zk 6 rfl (zc rfl (Ns hT s (aK _ _) hp) ?_)))
 rintro v h ⟨w,u0,u1,rfl,s⟩
 obtain⟨id0,I,g1,g2⟩:=jg (P:=Tryz.prog) s (k:=0) (i:=0) (c:=u0) rfl rfl bh eZ
 obtain⟨id1,J,g3,g4⟩:=jg (P:=Tryz.prog) s (k:=0) (i:=1) (c:=u1) rfl rfl bh eZ
 have Qm:=(s.rQ (j:=0) rfl).2.2
 have oX:=jZ (s.buf (k:=1) rfl).view
 refine zk 8 rfl ?_
 have s0:=s
 refine WP.drawn [af,af,af,af,af,af,af,af,some (0,2),some (0,2),some (0,2),af,af,af,af,af,af,af,af,af,af,af] rfl (by kernel_rfl) (by kernel_rfl) ?_
 refine zM rfl (aE.rX rfl rfl rfl rfl (az rfl rfl aN) (by decide) ?_)
 refine zM rfl (zM rfl (zO rfl (aC rfl rfl rfl (s.eY (n:=2) (j:=0) rfl rfl (by decide) bh)) ?_))
 refine aE.rX rfl rfl rfl rfl (az rfl rfl aN) (by decide) ?_
 refine zO rfl (o5 rfl rfl) (zM rfl (zM rfl (zO rfl (bx (r:=.ptr id0 I) rfl rfl g1) (zL rfl (s.z6 (k:=0) (i:=0) rfl rfl bh eZ g1 ah) (aE.any rfl rfl rfl rfl (OpR.call rfl rfl rfl rfl (Ja hT s)) ?_)))))
 intro mv h s
 have s:=s.ae [1,1,1,1,1,0]
 have s1:=s
 refine aE.any rfl rfl rfl rfl (OpR.call rfl rfl rfl rfl (Gr hT (s.buf (k:=1) rfl).view (s.aq (k:=5) rfl (aY _ _)))) ?_
 rintro r h' ⟨rfl,rfl⟩
 rw[show decide (ij=ij)=true from dy rfl]
 refine zO rfl (eG rfl rfl) (zO rfl (o5 rfl rfl) (zM rfl (zM rfl (zO rfl (bx (r:=.ptr id1 J) rfl rfl g3) (zL rfl (s.z6 (k:=0) (i:=1) rfl rfl bh eZ g3 ah) (zO rfl (aC rfl rfl rfl (au ak (s.aq (k:=2) rfl (aK _ _)))) ?_))))))
 rw[Qn]
 refine aE.rX rfl rfl rfl rfl (az rfl rfl aN) (by decide) ?_
 refine zO rfl (o5 rfl rfl) ?_
 refine aE.nil ⟨⟨aa,aa,aa,aa,aa,aa,aa,aa,fun _ _=>.inr ⟨rfl,⟨_,bV rfl⟩,Qm⟩,fun _ _=>.inr ⟨rfl,⟨_,bx (r:=.ptr id0 I) rfl rfl g1⟩,bj _ rfl⟩,ga (.inr ⟨rfl,⟨_,o_load rfl (s0.z6 (k:=0) (i:=0) rfl rfl bh eZ g1 ah)⟩,oX⟩) (.inr ⟨rfl,⟨_,o_load rfl (s1.z6 (k:=0) (i:=0) rfl rfl bh eZ g1 ah)⟩,oX⟩),aa,aa,aa,aa,aa,aa,aa,aa,aa,aa,aa,aa⟩,?_⟩
 refine zK 5 rfl ?_
 have FK:=hp.len
 refine zc rfl (E7 hT (s.ae [3]) (aK _ _) (by omega)) ?_
 rintro v h ⟨s,(⟨hg,rfl⟩|⟨hg,rfl⟩)⟩
 ·rw[show(pg ε 0).getD 12 0=201 from hp.kind,show c9 (pg ε 0) 18 4=n from hp.link]
  have s:=s.ae [1,1,1,1,0]
  refine zk 16 rfl (zC rfl aN (by decide) ?_)
  exact zk 6 rfl (zo rfl (bx (r:=.ptr id1 J) rfl rfl g3) (zl rfl (s.z6 (k:=0) (i:=1) rfl rfl bh eZ g3 ah) (zk 6 rfl (WP.ret ⟨aa,_,rfl,.inr ⟨_,aj,rfl,BL,hs,(((((s.ae [2,2]).del 5).del 4).del 3).del 2)⟩⟩))))
 ·rw[hp.good] at hg;cases hg
theorem Jb (hT:W told)(hR:I_ told N lv dd sm rv A pg)(J:lv ε)(hN:1≤N)(hp:dX (pg ε 0) 201 n extra [ij,R])(Qn:R.length=64)(s:Sat h (A ε::S)):
  Call ⟨Tryz.prog,told⟩ 89 [rv] h fun v h'=>(∃aj,v=.aW [.aV,.int .i64 0,.int .i64 9]∧Sat h' (A aj::S)∧dd aj)∨∃u aj,v=.aW [u,.int .i64 (n:Int),.int .i64 0]∧lv aj∧sm ε aj∧Sat h' (aQ u R::A aj::S):=by
 refine Call.of_wp (hT.free _ rfl) Tryz.func89 rfl rfl (zK 9 rfl (zc rfl (Ww hT hR J hN hp Qn s) ?_))
 rintro v h (⟨aj,rfl,s,hd⟩|⟨u,aj,rfl,I,hs,s⟩)
 ·skip
  refine zk 11 rfl (WP.block (zK 3 rfl (zB rfl aN (by decide) ?_)))
  exact zk 10 rfl (WP.ret ⟨aa,_,rfl,.inl ⟨aj,rfl,s,hd⟩⟩)
 refine zk 9 rfl (zv (zw (WP.block (zg rfl (zm rfl (zh rfl (az rfl rfl aN) (rfl) (za rfl (zv (zj rfl (zg rfl (zm rfl (zo rfl (eG rfl rfl) (za rfl (zv (zj rfl (WP.skip (zg rfl (zk 5 rfl (zv ?_)))))))))))))))))))
 refine WP.ret ⟨aa,_,rfl,?_⟩
 exact .inr ⟨u,aj,rfl,I,hs,s⟩
theorem Wx (hT:W told)(hR:kf told N B rv A pg)(I:EI N B ε)(hN:1≤N)(hp:dX (pg ε 0) 201 n extra [ij,R])(J:R.length=64)(s:Sat h (A ε::S)):
  Call ⟨Tryz.prog,told⟩ 89 [rv] h fun v h'=>∃u aj,v=.aW [u,.int .i64 (n:Int),.int .i64 0]∧EI N B aj∧Sm N ε aj∧Sat h' (aQ u R::A aj::S) :=
 (Jb hT hR.m I hN hp J s).mono fun _ _ k=>k.resolve_left fun⟨_,_,_,q⟩=>q
theorem Bh (hT:W told)(hR:I_ told N lv dd sm rv A pg)(J:lv ε)(hN:2≤N)(hp:dX (pg ε 1) kd link extra [M])(hM:M.length=375)(s:Sat h (A ε::S)):
  Call ⟨Tryz.prog,told⟩ 91 [rv,.int .i64 0] h fun v h'=>(∃aj,v=.aW [.aV,.aV,.int .i64 9]∧Sat h' (A aj::S)∧dd aj)∨∃w u aj,v=.aW [w,u,.int .i64 0]∧lv aj∧sm ε aj∧Sat h' (aQ u M::aQ w (pg ε 1)::A aj::S):=by
 obtain⟨ty,u,f,rfl,hm,jK⟩:=hR.iface
 refine Call.of_wp (hT.free _ rfl) Tryz.func91 rfl rfl (zK 11 rfl (zb rfl (by exact aO (ay (by omega) (by omega))) ?_))
 refine aA.any rfl rfl rfl (OpR.invoke rfl rfl rfl hm rfl (jK (n:=1) J (by decide) (by omega) s)) ?_
 rintro v h (⟨aj,rfl,hd,s⟩|⟨w,aj,rfl,I,hs,s⟩)
 ·skip
  refine zk 9 rfl (zB rfl aN (by decide) ?_)
  exact zk 9 rfl (WP.ret ⟨aa,_,rfl,.inl ⟨aj,rfl,s,hd⟩⟩)
 refine zk 9 rfl (zC rfl aN (rfl) (zk 6 rfl (zc rfl (S9 (i:=0) hT s (aK _ _) hp rfl) ?_)))
 rintro v h ⟨u,rfl,s⟩
 refine zk 10 rfl (zC rfl aN (rfl) (zk 2 rfl (zo rfl (aC rfl rfl rfl (au ak (s.aq (k:=0) rfl (aK _ _)))) ?_)))
 rw[hM]
 refine zC rfl aN (by decide) ?_
 exact zk 12 rfl (WP.ret ⟨aa,_,rfl,.inr ⟨w,u,aj,rfl,I,hs,s⟩⟩)
theorem Ti (J:W told)(hR:kf told N B rv A pg)(I:EI N B ε)(hN:2≤N)(hp:dX (pg ε 1) kd link extra [M])(hM:M.length=375)(s:Sat h (A ε::S)):
  Call ⟨Tryz.prog,told⟩ 91 [rv,.int .i64 0] h fun v h'=>∃w u aj,v=.aW [w,u,.int .i64 0]∧EI N B aj∧Sm N ε aj∧Sat h' (aQ u M::aQ w (pg ε 1)::A aj::S) :=
 (Bh J hR.m I hN hp hM s).mono fun _ _ k=>k.resolve_left fun⟨_,_,_,q⟩=>q
end
def bt (M:List Nat)(i:Nat): Bool:=(M.getD (i/8) 0).testBit (i%8)
def DM (M:List Nat)(i:Nat): List Nat:=M.set (i/8) (Nat.lor (M.getD (i/8) 0) (2^(i%8)))
def Qo (M:List Nat)(i:Nat): List Nat:=M.set (i/8) (Nat.land (M.getD (i/8) 0) (255-2^(i%8)))
theorem Jc {b:Nat}(hi:i<M.length): (M.set i b).getD j 0=if i=j then b else M.getD j 0:=by
 grind
theorem UX (hi:i/8<M.length): bt (DM M i) j=if j=i then true else bt M j:=by
 unfold bt DM
 rw[Jc hi]
 by_cases h:i/8=j/8
 ·rw[aH h,show Nat.lor (M.getD (i/8) 0) (2^(i%8))=(M.getD (i/8) 0) ||| (2^(i%8)) from rfl,Nat.testBit_or,Nat.testBit_two_pow,h]
  grind
 ·grind
theorem aa0 (hi:i/8<M.length): bt (Qo M i) j=if j=i then false else bt M j:=by
 unfold bt Qo
 rw[Jc hi]
 by_cases h:i/8=j/8
 ·have e:255-2^(i%8)=2^8-(2^(i%8)+1):=by omega
  have I:2^(i%8)<2^8:=vp (by decide) (by omega)
  rw[aH h,show Nat.land (M.getD (i/8) 0) (255-2^(i%8))=(M.getD (i/8) 0) &&& (255-2^(i%8)) from rfl,Nat.testBit_and,e,Nat.testBit_two_pow_sub_succ I,Nat.testBit_two_pow,h]
  grind
 ·grind
theorem LR : (DM M i).length=M.length:=bT
theorem LS : (Qo M i).length=M.length:=bT
theorem Qp (I:a<256)(J:k<8): Nat.lor a (2^k)<256:=Nat.or_lt_two_pow (n:=8) I (vp (by decide) J)
theorem Fo {c:Nat}(I:a<256): Nat.land a c<256:=Nat.lt_of_le_of_lt Nat.and_le_left I
def lp (x:Nat): Nat:=((List.range 8).filter fun i => !x.testBit i).headD 8
theorem LU : ∀x,x<255→lp x<8∧x.testBit (lp x)=false∧∀j,j<lp x→x.testBit j=true:=by
 have:∀x,x<255→(decide (lp x<8)&&(!x.testBit (lp x)&&(List.range (lp x)).all fun j=>x.testBit j))=true:=by decide +kernel
 grind
theorem ab4 : ∀x,x<256→(∀j,j<8→x.testBit j=true)→x=255:=by
 have:∀x,x<256→((List.range 8).all fun j=>x.testBit j)=true→x=255:=by decide +kernel
 grind
theorem DN (I:j<8): bt M (8*k+j)=(M.getD k 0).testBit j:=by
 grind[bt]
section
variable {x y:Operand} {b:Nat}
theorem Zd (I:k<8): binV P h .shr t x y (.int .u8 (a:Int)) (.int .i64 (k:Int))=some (.int .u8 ((a/2^k:Nat):Int)):=by
 simp only[binV,shiftV,IntKind.bits,dm]
 grind
theorem Ze (I:k<8): binV P h .shl t x y (.int .u8 1) (.int .i64 (k:Int))=some (.int .u8 ((2^k:Nat):Int)):=by
 have J:2^k<256:=vp (a:=2) (n:=8) (by decide) I
 simp only[binV,shiftV,IntKind.bits,dm]
 grind[ru]
theorem wo {op:BinOp}{f:Nat→Nat→Nat}(I:a<256)(J:b<256)(hf:f a b<256)(he:bitsV op .u8 (a:Int) (b:Int)=some (.int .u8 (IntKind.u8.wrap (f ((a:Int)%(2^(IntKind.u8).bits:Int)).toNat ((b:Int)%(2^(IntKind.u8).bits:Int)).toNat:Nat)))):
  bitsV op .u8 (a:Int) (b:Int)=some (.int .u8 ((f a b:Nat):Int)):=by
 grind[IntKind.bits,ru]
theorem Zf (I:a<256)(J:b<256): binV P h .and t x y (.int .u8 (a:Int)) (.int .u8 (b:Int))=some (.int .u8 ((Nat.land a b:Nat):Int)):=by
 simp only[binV,ikBeq,ag,intV]
 exact wo (f:=Nat.land) I J (Fo I) rfl
theorem aa1 (I:a<256)(J:k<8): binV P h .or t x y (.int .u8 (a:Int)) (.int .u8 ((2^k:Nat):Int))=some (.int .u8 ((Nat.lor a (2^k):Nat):Int)):=by
 simp only[binV,ikBeq,ag,intV]
 exact wo (f:=Nat.lor) I (vp (a:=2) (n:=8) (by decide) J) (Qp I J) rfl
theorem Qq (I:a<256)(J:b<256): binV P h .andNot t x y (.int .u8 (a:Int)) (.int .u8 (b:Int))=some (.int .u8 ((Nat.land a (255-b):Nat):Int)):=by
 simp only[binV,ikBeq,ag,intV]
 exact wo (f:=fun a b=>Nat.land a (255-b)) I J (Fo I) rfl
theorem Jd (I:a<256): unV .xor (.int .u8 (a:Int))=some (.int .u8 ((255-a:Nat):Int)):=by
 have:∀a,a<256→Nat.xor 255 a=255-a:=by decide +kernel
 have e:bitsV .xor .u8 ((255:Nat):Int) (a:Int)=some (.int .u8 ((Nat.xor 255 a:Nat):Int)):=wo (f:=Nat.xor) (by decide) I (by grind) rfl
 rw[this a I] at e
 exact e
theorem Zg : Nat.land (a/2^k) 1=if a.testBit k=true then 1 else 0:=by
 rw[Nat.testBit_eq_decide_div_mod_eq,show Nat.land (a/2^k) 1=(a/2^k) &&& 1 from rfl,Nat.and_one_is_mod]
 grind
theorem Zh {f:Nat→Nat}{L:List Nat}(hu:P.underlying t=some .string)(I:∀x,x<256→nth L x=some (f x))(J:a<256): indexV P t (.str L) (.int .u8 (a:Int))=some (.int .u8 ((f a:Nat):Int)):=by
 simp_all[indexV]
end
section
variable {told:cy} {v x:V} {l:List Nat}
theorem Je (I:W told)(J:a<256): Call ⟨Tryz.prog,told⟩ 204 [.int .u8 ((255-a:Nat):Int)] h fun r h'=>r=.int .i64 (lp a:Nat)∧h'=h:=by
 have hle:∀a,a<256→lp a≤8:=by decide +kernel
 have hle:=hle a J
 have he:lp (255-(255-a))=lp a:=by rw[show 255-(255-a)=a by omega]
 refine Call.of_wp (I.free _ rfl) Tryz.func204 rfl rfl (zK 7 rfl (zo rfl (HQ rfl rfl (Zh (f:=fun x=>lp (255-x)) mB (by decide +kernel) (by omega))) ?_))
 rw[he]
 refine zo rfl (b8 rfl (by exact jN Tryz.underlying5 bP (ay (by omega) (by omega)))) ?_
 exact zk 2 rfl (WP.ret ⟨aa,_,rfl,rfl,rfl⟩)
noncomputable def lwL : Code:=cE [1,1,1,0,1,0,0,1,1,0,0,1,1,1,1,0,0] ((Tryz.f162.body).getD .skip)
theorem Tj (hT:W told){lo:Nat}(hv:View h u M)(hM:M.length=375)(hn:n≤3000)(jC:lo<n)(h0:bt M lo=false)(h1:∀j,j<lo→bt M j=true): ∀(m k:Nat) (E:List (Nat×V)) (Q:Ex→List (Nat×V)→H→Prop),k+m=lo/8 →
  Has E [(5,.int .i64 (n:Int)),(7,.int .i64 0),(39,u),(40,.int .i64 375),(41,.int .i64 (k:Int))] →
  (∀E',look E' 2=some (.int .i64 (lo:Int))→look E' 3=some (.int .i64 0)→Q .ret E' h)→WP ⟨Tryz.prog,told⟩ 65 (.loop lwL) E h Q:=by
 intro m
 induction m with
 |zero =>
  intro k E Q hk hE hq
  have J:M[k]?=some (M[k]'(by omega)):=aG _
  have I:M.getD k 0=M[k]'(by omega):=by rw[qv,J];rfl
  generalize (M[k]'(by omega))=x at J I
  have hx:x<256:=hv.1 x (aR J)
  obtain⟨id,off,e1,e2⟩:=c7 hv J
  have FW:x≠255:=fun e=>by
   have:=DN (M:=M) (k:=k) (j:=lo%8) (by omega)
   rw[show 8*k+lo%8=lo by omega,h0,I,e] at this
   have q:∀j,j<8→(255:Nat).testBit j=true:=by decide
   rw[q _ (by omega)] at this;cases this
  obtain⟨w1,w2,w3⟩:=LU x (by omega)
  have hl:8*k+lp x=lo:=by
   have a1:=DN (M:=M) (k:=k) (j:=lp x) w1
   rw[I,w2] at a1
   rcases oQ (8*k+lp x) lo with q|q
   ·rw[h1 _ q] at a1;cases a1
   ·by_cases q2:lo%8<lp x
    ·have:=w3 _ q2
     have a2:=DN (M:=M) (k:=k) (j:=lo%8) (by omega)
     rw[show 8*k+lo%8=lo by omega,h0,I,this] at a2;cases a2
    ·omega
  refine WP.loop (WP.has hE (zg rfl (zB rfl aL (by simp;omega) ?_)))
  refine zk 5 rfl (WP.block (zK 3 rfl (zo rfl (bx (r:=.ptr id off) rfl rfl e1) (zl rfl e2 (zk 6 rfl (zb rfl (by exact jq (ay (by omega) (by omega))) ?_))))))
  refine zm rfl (zb rfl (by exact jq (ay (by omega) (by omega))) ?_)
  refine zb rfl (by exact aO (ay (by omega) (by omega))) ?_
  refine zm rfl (zo rfl (eG rfl (Jd hx)) (zc rfl (Je hT hx) ?_))
  rintro v h' ⟨rfl,rfl⟩
  refine zo rfl (az (r:=.int .i64 (lo:Int)) rfl rfl (by rw[←hl,show(((8*k+lp x:Nat):Int))=(3000*0+8*(k:Int))+(lp x:Int) by omega];exact aO (ay (by omega) (by omega)))) ?_
  refine zk 5 rfl (zB rfl aN (by simp;omega) ?_)
  refine zk 3 rfl (zB rfl aL (by simp;omega) ?_)
  exact zk 9 rfl (WP.ret (hq _ rfl rfl))
 |succ m ih =>
  intro k E Q hk hE hq
  have J:M[k]?=some (M[k]'(by omega)):=aG _
  have I:M.getD k 0=M[k]'(by omega):=by rw[qv,J];rfl
  generalize (M[k]'(by omega))=x at J I
  have hx:x<256:=hv.1 x (aR J)
  obtain⟨id,off,e1,e2⟩:=c7 hv J
  have FW:x=255:=ab4 x hx fun j hj=>by rw[←I,←DN hj];exact h1 _ (by omega)
  have Qr:∀a,a<256→lp a≤8:=by decide +kernel
  have Qr:=Qr x hx
  refine WP.loop (WP.has hE (zg rfl (zB rfl aL (by simp;omega) ?_)))
  refine zk 5 rfl (WP.block (zK 3 rfl (zo rfl (bx (r:=.ptr id off) rfl rfl e1) (zl rfl e2 (zk 6 rfl (zb rfl (by exact jq (ay (by omega) (by omega))) ?_))))))
  refine zm rfl (zb rfl (by exact jq (ay (by omega) (by omega))) ?_)
  refine zb rfl (by exact aO (ay (by omega) (by omega))) ?_
  refine zm rfl (zo rfl (eG rfl (Jd hx)) (zc rfl (Je hT hx) ?_))
  rintro v h' ⟨rfl,rfl⟩
  refine zb rfl (by exact aO (ay (by omega) (by omega))) ?_
  refine zk 5 rfl (zC rfl aN (by simp;omega) ?_)
  refine zk 5 rfl (zv (zj rfl (WP.skip (zr rfl (zb rfl (by exact aO (ay (by omega) (by omega))) ?_)))))
  refine zm rfl (zv ?_)
  exact ih (k+1) _ Q (by omega) ⟨rfl,rfl,rfl,rfl,rfl,aa⟩ hq
theorem Qs (hT:W told)(hv:View h u M)(hM:M.length=375)(hn:n≤3000)(h1:∀j,j<n→bt M j=true)(h0:∀j,n≤j→bt M j=false): ∀(m k:Nat) (E:List (Nat×V)) (Q:Ex→List (Nat×V)→H→Prop),k+m=375 →
  Has E [(5,.int .i64 (n:Int)),(7,.int .i64 0),(25,.int .i64 1),(26,.int .i64 0),(39,u),(40,.int .i64 375),(41,.int .i64 (k:Int))] →
  (∀E',Has E' [(25,.int .i64 1),(26,.int .i64 0)]→Q (.exit 2) E' h)→WP ⟨Tryz.prog,told⟩ 65 (.loop lwL) E h Q:=by
 intro m
 induction m with
 |zero =>
  intro k E Q hk I hq
  refine WP.loop (WP.has I (zg rfl (zC rfl aL (by simp;omega) ?_)))
  exact zk 3 rfl (WP.exit (hq _ ⟨rfl,rfl,aa⟩))
 |succ m ih =>
  intro k E Q hk I hq
  have hb:M[k]?=some (M[k]'(by omega)):=aG _
  have J:M.getD k 0=M[k]'(by omega):=by rw[qv,hb];rfl
  generalize (M[k]'(by omega))=x at hb J
  have hx:x<256:=hv.1 x (aR hb)
  obtain⟨id,off,e1,e2⟩:=c7 hv hb
  have Qr:∀a,a<256→lp a≤8:=by decide +kernel
  have Qr:=Qr x hx
  have next:=fun E I=>ih (k+1) E Q (by omega) I hq
  refine WP.loop (WP.has I (zg rfl (zB rfl aL (by simp;omega) ?_)))
  refine zk 5 rfl (WP.block (zK 3 rfl (zo rfl (bx (r:=.ptr id off) rfl rfl e1) (zl rfl e2 (zk 6 rfl (zb rfl (by exact jq (ay (by omega) (by omega))) ?_))))))
  refine zm rfl (zb rfl (by exact jq (ay (by omega) (by omega))) ?_)
  refine zb rfl (by exact aO (ay (by omega) (by omega))) ?_
  refine zm rfl (zo rfl (eG rfl (Jd hx)) (zc rfl (Je hT hx) ?_))
  rintro v h' ⟨rfl,rfl⟩
  refine zb rfl (by exact aO (ay (by omega) (by omega))) ?_
  refine zk 5 rfl ?_
  by_cases FW:x=255
  ·skip
   refine zC rfl aN (by simp;omega) ?_
   refine zk 5 rfl (zv (zj rfl (WP.skip (zr rfl (zb rfl (by exact aO (ay (by omega) (by omega))) ?_)))))
   refine zm rfl (zv ?_)
   exact next _ ⟨rfl,rfl,rfl,rfl,rfl,rfl,rfl,aa⟩
  ·obtain⟨w1,w2,w3⟩:=LU x (by omega)
   have CQ:n≤8*k+lp x:=by
    rcases oQ (8*k+lp x) n with q|q
    ·have:=h1 _ q
     rw[DN w1,J,w2] at this;cases this
    ·exact q
   refine zB rfl aN (by simp;omega) ?_
   refine zk 3 rfl (zC rfl aL (by simp;omega) ?_)
   refine zq rfl (zv (zj rfl (WP.skip (zr rfl (zb rfl (by exact aO (ay (by omega) (by omega))) ?_)))))
   refine zm rfl (zv ?_)
   exact next _ ⟨rfl,rfl,rfl,rfl,rfl,rfl,rfl,aa⟩
end
section
variable {x y:Operand}
theorem Tk (I:n<3000): binV P h .quo t x y (.int .i64 (n:Int)) (.int .i64 3000)=some (.int .i64 0):=by
 have:=Bg (P:=P) (h:=h) (t:=t) (x:=x) (y:=y) (a:=n) (b:=3000) (by decide) (by omega)
 rw[show n/3000=0 by omega] at this;exact this
theorem Zi (I:n<3000): binV P h .rem t x y (.int .i64 (n:Int)) (.int .i64 3000)=some (.int .i64 (n:Int)):=by
 have:=Nc (P:=P) (h:=h) (t:=t) (x:=x) (y:=y) (a:=n) (b:=3000) (by decide)
 rw[show n%3000=n by omega] at this;exact this
theorem Qt : binV P h .eql t x y (.int .u8 ((Nat.land (a/2^k) 1:Nat):Int)) (.int .u8 1)=some (.bool (a.testBit k)):=by
 rw[Zg]
 cases h:a.testBit k<;>rfl
theorem Zj {k:IntKind}{a b:Int}: builtinV P h .min ts [.int k a,.int k b]=some (.int k (min a b),h):=by
 grind[builtinV,foldV,xZ,dO]
end
section
variable {told:cy} {v x:V} {l:List Nat} {sm:bw→bw→Prop}
structure ir (n:Nat)(R M:List Nat)(p:Int→List Nat): Prop where
 head:∃ex,dX (p 0) 201 n ex [ij,R]
 rl:R.length=64
 marks:∃kd lk ex,dX (p 1) kd lk ex [M]
 ml:M.length=375
 n1:2≤n
 n2:n≤2999
 own:∀j,j<2→bt M j=true
 hi:∀j,n≤j→bt M j=false
theorem Tl (hT:W told)(hR:I_ told N lv dd sm rv A pg)(dL:lv ε)(hN:2≤N)(hp:ir n R M (pg ε)){lo:Nat}(jC:lo<n)(h0:bt M lo=false)(h1:∀j,j<lo→bt M j=true)(s:Sat h (A ε::S)):
  Call ⟨Tryz.prog,told⟩ 162 [rv] h fun v h'=>(∃aj,v=.aW [.int .i64 0,.int .i64 9]∧Sat h' (A aj::S)∧dd aj)∨∃aj,v=.aW [.int .i64 (lo:Int),.int .i64 0]∧lv aj∧sm ε aj∧Sat h' (A aj::S):=by
 obtain⟨ex,ug⟩:=hp.head
 obtain⟨kd,lk,qm,I⟩:=hp.marks
 have hM:=hp.ml
 have tJ:=hp.n2
 refine Call.of_wp (hT.free _ rfl) Tryz.func162 rfl rfl (zK 8 rfl (zc rfl (Jb hT hR dL (by omega) ug hp.rl s) ?_))
 rintro v h (⟨J,rfl,s,hd⟩|⟨u,J,rfl,ow,f_,s⟩)
 ·skip
  refine zk 12 rfl (zB rfl aN (by decide) ?_)
  exact zk 8 rfl (WP.ret ⟨aa,_,rfl,.inl ⟨J,rfl,s,hd⟩⟩)
 refine zk 12 rfl (zC rfl aN (rfl) (zk 7 rfl (zc rfl (DL hT (by omega) (by omega)) ?_)))
 rintro v h' ⟨rfl,rfl⟩
 refine zb rfl (by exact ei (ay (by omega) (by omega))) ?_
 refine zk 2 rfl (WP.block (WP.loop (zg rfl (zB rfl aL (by decide) ?_))))
 have I:dX (pg J 1) kd lk qm [M]:=by rw[hR.same f_];exact I
 refine zk 5 rfl (WP.block (zK 9 rfl (zc rfl (Bh hT hR ow hN I hM (s.ae [1])) ?_)))
 rintro v h (⟨lZ,rfl,s,hd⟩|⟨w2,u2,lZ,rfl,qu,l7,s⟩)
 ·skip
  refine zk 12 rfl (zB rfl aN (by decide) ?_)
  exact zk 8 rfl (WP.ret ⟨aa,_,rfl,.inl ⟨lZ,rfl,s.del 1,hd⟩⟩)
 refine zk 12 rfl (zC rfl aN (rfl) (zk 6 rfl (zo rfl (aC rfl rfl rfl (au ak (s.aq (k:=0) rfl (aK _ _)))) ?_)))
 rw[hM]
 refine zk 2 rfl (WP.block ?_)
 refine Tj hT (s.buf (k:=0) rfl).view hM (by omega) jC h0 h1 (lo/8) 0 _ _ (by omega) ⟨rfl,rfl,rfl,rfl,rfl,aa⟩ (fun E' l2 l3=>⟨aa,_,xm l2 l3,.inr ⟨lZ,rfl,qu,hR.tr f_ l7,?_⟩⟩)
 exact((s.ae [2]).del 3 |>.del 2).del 1
theorem Qu (hT:W told)(hR:I_ told N lv dd sm rv A pg)(dL:lv ε)(hN:2≤N)(I:ir n R M (pg ε))(h1:∀j,j<n→bt M j=true)(s:Sat h (A ε::S)):
  Call ⟨Tryz.prog,told⟩ 162 [rv] h fun v h'=>(∃aj,v=.aW [.int .i64 0,.int .i64 9]∧Sat h' (A aj::S)∧dd aj)∨∃aj,v=.aW [.int .i64 (-1),.int .i64 0]∧lv aj∧sm ε aj∧Sat h' (A aj::S):=by
 obtain⟨ex,ug⟩:=I.head
 obtain⟨kd,lk,qm,J⟩:=I.marks
 have hM:=I.ml
 have tJ:=I.n2
 have BG:=I.n1
 refine Call.of_wp (hT.free _ rfl) Tryz.func162 rfl rfl (zK 8 rfl (zc rfl (Jb hT hR dL (by omega) ug I.rl s) ?_))
 rintro v h (⟨mw,rfl,s,hd⟩|⟨u,mw,rfl,ow,f_,s⟩)
 ·skip
  refine zk 12 rfl (zB rfl aN (by decide) ?_)
  exact zk 8 rfl (WP.ret ⟨aa,_,rfl,.inl ⟨mw,rfl,s,hd⟩⟩)
 refine zk 12 rfl (zC rfl aN (rfl) (zk 7 rfl (zc rfl (DL hT (by omega) (by omega)) ?_)))
 rintro v h' ⟨rfl,rfl⟩
 refine zb rfl (by exact ei (ay (by omega) (by omega))) ?_
 refine zk 2 rfl (WP.block (WP.loop (zg rfl (zB rfl aL (by decide) ?_))))
 have J:dX (pg mw 1) kd lk qm [M]:=by rw[hR.same f_];exact J
 refine zk 5 rfl (WP.block (zK 9 rfl (zc rfl (Bh hT hR ow hN J hM (s.ae [1])) ?_)))
 rintro v h (⟨lZ,rfl,s,hd⟩|⟨w2,u2,lZ,rfl,qu,l7,s⟩)
 ·skip
  refine zk 12 rfl (zB rfl aN (by decide) ?_)
  exact zk 8 rfl (WP.ret ⟨aa,_,rfl,.inl ⟨lZ,rfl,s.del 1,hd⟩⟩)
 refine zk 12 rfl (zC rfl aN (rfl) (zk 6 rfl (zo rfl (aC rfl rfl rfl (au ak (s.aq (k:=0) rfl (aK _ _)))) ?_)))
 rw[hM]
 refine zk 2 rfl (WP.block ?_)
 refine Qs hT (s.buf (k:=0) rfl).view hM (by omega) h1 I.hi 375 0 _ _ (by omega) ⟨rfl,rfl,rfl,rfl,rfl,rfl,rfl,aa⟩ (fun E' hE => ?_)
 refine WP.has hE (zr rfl (zb rfl (by exact aO (ay (by omega) (by omega))) ?_))
 refine zm rfl (zv (WP.loop (zg rfl (zh rfl (az rfl rfl aL) (by decide) ?_))))
 exact zk 3 rfl (WP.exit (zK 5 rfl (WP.ret ⟨aa,_,rfl,.inr ⟨lZ,rfl,qu,hR.tr f_ l7,((s.ae [2]).del 3 |>.del 2).del 1⟩⟩)))
end
section
variable {P:Int→List Nat} {n2 m:Nat} {DG tH:List (List Nat)} {jD:List En} {qs qt:List Nat} {cut:Ky}
theorem Nv.two (J:Nv F P l [] (some cut) DG mg qs)(g1:F l DG)(p1:cm (P m) 204 0 l DG)(h2:Nv F P l cut none tH jD qt)(g2:F l tH)(p2:cm (P n2) 204 0 l tH)(c1:[]<cut)(c3:1≤cut.length∧cut.length≤96)(hm:m<4294967296)(hn:n2<4294967296):
  Nv F P (l+1) [] none [ie m [],ie n2 cut] (mg++jD) (m::(qs++n2::qt)):=by
 refine⟨[⟨[],m,mg,qs⟩,⟨cut,n2,jD,qt⟩],rfl,⟨by simp,fun k I => ?_,fun i k I J => ?_,fun i k I J => ?_,fun i j k k2 I j8 J h2 => ?_⟩,by simp,by simp[gu],fun i k I => ?_⟩
 ·simp only[gm,jw,mL] at I
  rcases I with rfl|rfl
  ·exact hm
  ·exact hn
 ·obtain⟨i,rfl⟩:∃j,i=j+1:=⟨i-1,by omega⟩
  cases i with
  |zero=>simp at I;subst I;exact c3
  |succ i=>simp at I
 ·obtain⟨i,rfl⟩:∃j,i=j+1:=⟨i-1,by omega⟩
  cases i with
  |zero=>simp at I;subst I;exact⟨c1,fun b hb=>by cases hb⟩
  |succ i=>simp at I
 ·obtain⟨i,rfl⟩:∃j,i=j+1:=⟨i-1,by omega⟩
  obtain⟨j,rfl⟩:∃q,j=q+2:=⟨j-2,by omega⟩
  simp at j8
 ·match i,I with
  |0,I =>
   simp at I;subst I
   exact⟨DG,J,g1,p1⟩
  |1,I =>
   simp at I;subst I
   exact⟨tH,h2,g2,p2⟩
  |i+2,I=>simp at I
end
theorem Qv : ∀ {l m:List Nat},l.Nodup→(∀x∈l,x∈m)→l.length≤m.length:=by
 intro l
 induction l with
 |nil=>intro m _ _;exact eN _
 |cons x l ih =>
  intro m hn hs
  obtain⟨h1,h2⟩:=List.nodup_cons.1 hn
  have I:=hs x bO
  have:=ih (m:=m.erase x) h2 fun y J=>(List.mem_erase_of_ne (fun e=>h1 (by rw[←e];exact J))).2 (hs y (bR _ J))
  rw[List.length_erase_of_mem I] at this
  have:=List.length_pos_of_mem I
  rw[aZ];omega
structure mY (N:Nat)(M:List Nat)(ps:List Nat): Prop where
 nd:ps.Nodup
 tY:∀p∈ps,2≤p∧p<N
 bits:∀j,j<N→bt M j=decide (j<2∨j∈ps)
section
theorem mY.low (h:mY N M ps)(hl:ps.length+2<N): ∃lo,lo<N∧bt M lo=false∧(∀j,j<lo→bt M j=true)∧2≤lo∧lo∉ps:=by
 have hex:∃lo,lo<N∧bt M lo=false:=by
  refine Eb fun ue => ?_
  have nP:∀j,j<N→bt M j=true:=fun j hj=>by
   cases hb:bt M j with
   |true=>rfl
   |false=>exact absurd ⟨j,hj,hb⟩ ue
  have Tm:∀j∈List.range N,j∈[0,1]++ps:=fun j hj=>by
   have I:=nP j (List.mem_range.1 hj)
   rw[h.bits j (List.mem_range.1 hj)] at I
   rcases oJ I with q|q
   ·rw[nD];left
    simp only[gm,jw,mL];omega
   ·exact kD _ q
  have:=Qv List.nodup_range Tm
  rw[List.length_range,aX] at this
  simp only[aZ,bI] at this
  omega
 have main:∀n,(∃lo,lo<n∧lo<N∧bt M lo=false)→∃lo,lo<N∧bt M lo=false∧∀j,j<lo→bt M j=true:=by
  intro n
  induction n with
  |zero=>rintro⟨lo,I,_⟩;omega
  |succ n ih =>
   rintro⟨lo,I,J,h3⟩
   by_cases q:∃lo,lo<n∧lo<N∧bt M lo=false
   ·exact ih q
   ·refine⟨lo,J,h3,fun j hj => ?_⟩
    cases hb:bt M j with
    |true=>rfl
    |false=>exact absurd ⟨j,by omega,by omega,hb⟩ q
 obtain⟨lo,I,J⟩:=hex
 obtain⟨lo,I,J,h3⟩:=main N ⟨lo,I,I,J⟩
 have h4:=h.bits lo I
 rw[J] at h4
 have h5:=of_decide_eq_false h4.symm
 exact⟨lo,I,J,h3,by omega,fun q=>h5 (.inr q)⟩
theorem mY.more (h:mY N M ps){z:Nat}(J:z<N)(h2:2≤z)(hn:z∉ps)(hb:∀j,bt M' j=(bt M j||decide (j=z))): mY N M' (z::ps):=by
 refine⟨List.nodup_cons.2 ⟨hn,h.nd⟩,fun p I => ?_,fun j hj => ?_⟩
 ·rcases List.mem_cons.1 I with rfl|I
  ·exact⟨h2,J⟩
  ·exact h.tY p I
 ·rw[hb,h.bits j hj,←Bool.decide_or]
  congr 1
  simp only[gm,eq_iff_iff]
  constructor
  ·rintro((q|q)|q)
   ·exact .inl q
   ·exact .inr (.inr q)
   ·exact .inr (.inl q)
  ·rintro(q|q|q)
   ·exact .inl (.inl q)
   ·exact .inr q
   ·exact .inl (.inr q)
theorem mY.perm (h:mY N M ps){J:List Nat}(I:ps.Perm J): mY N M J :=
 ⟨I.nodup_iff.1 h.nd,fun p hq=>h.tY p (I.mem_iff.2 hq),fun j hj=>by rw[h.bits j hj];congr 1;rw[I.mem_iff]⟩
end
section
variable {v:V} {b:Nat} {bb:List Nat}
theorem qL (I:a≤b)(J:b≤c.length): bX (l9 v c) (l9 (slR v a b) ((c.take b).drop a)):=fun _ _ h=>ViewM.slice h I J
theorem Jf (J:cs[i]?=some c)(hu:P.underlying t=some (.slice e))(he:bg P e=some 1)(ha:isAggT P e=some false)(s:Sat h (pt x (.cells 4 (BQ n l bv cv) false)::.bK bv bb::roH 1 cv us::dD us cs::S)):
  ∃u id off,indexAddrV P t cv (.int .i64 (i:Int))=some (.ptr id off)∧loadV P h e (.ptr id off)=some u∧us[i]?=some u∧Sat h (pt x (.cells 4 (BQ n l bv cv) false)::.bK bv bb::roH 1 cv us::dD us cs::l9 u c::S):=by
 obtain⟨u,I,s1⟩:=Qi (s.ae [3]) J
 have hl:=pG (s.ae [3])
 have hi:=(List.getElem?_eq_some_iff.1 J).1
 obtain⟨id,off,e1,e2⟩:=Yu (P:=P) (t:=t) (e:=e) (i:=i) (s.u7 (j:=2) rfl (ry _ _ _)) (by omega) (by decide) hu he
 refine⟨u,id,off,e1,?_,I,?_⟩
 ·have:=e2 0 u e (by rw[cz,gh,aH (by decide),eA,dA];exact I) ha
  rwa [dA] at this
 ·have s1:=s1.ae [2,2,2,1,0]
  exact s1
theorem j3 (hu:P.underlying t=some (.slice e))(s:Sat h (pt x (.cells 4 (BQ n l bv cv) false)::.bK bv bb::roH 1 cv us::dD us cs::S)): lenV P h t cv=some (.int .i64 (cs.length:Int)) :=
 Yt (s.u7 (j:=2) rfl (ry _ _ _)) (by rw[pG (s.ae [3]),cz]) (by decide) hu
end
section
variable {told:cy} {v:V} {k val:List Nat}
theorem nJ (hT:W told)(hc:cs[i]?=some c)(I:jl l c)(hl:l≤64)(ff:c.length≤225)(s:Sat h (cH x n l b cs::S)):
  Call ⟨Tryz.prog,told⟩ 117 [.ptr x 0,.int .i64 (i:Int)] h fun r h'=>Sat h' (l9 r (fN l c)::cH x n l b cs::S):=by
 obtain⟨bv,cv,us,s⟩:=bQ.1 s
 obtain⟨u,id,off,e1,e2,Zk,s⟩:=Jf (P:=Tryz.prog) hc bh eZ ah s
 have hv:=s.aq (k:=4) rfl (aY _ _)
 refine Call.of_wp (hT.free _ rfl) Tryz.func117 rfl rfl (zK 9 rfl (zY s 0 fT bZ rfl ?_))
 by_cases h0:l=0
 ·subst h0
  have I:1≤c.length∧1+c.getD 0 0≤c.length:=I
  have oX:c[0]?=some (c.getD 0 0):=by grind
  obtain⟨lz,bo,e3,e4⟩:=c7 hv oX
  have J:fN 0 c=(c.take (1+c.getD 0 0)).drop 1:=by rw[fN,aH rfl,kF,sD]
  generalize c.getD 0 0=z at I oX e3 e4 J
  have hz:z<256:=hv.1 z (aR oX)
  refine zC rfl cL (by simp) ?_
  refine zk 4 rfl ?_
  have z0:=s
  refine WP.drawn [af,af,af,af,af,af,af,af,af,af,af,af,af,af,af,af,af,af,af] rfl (by kernel_rfl) (by kernel_rfl) ?_
  refine zM rfl (zN rfl (zF rfl (eW _ _) (zL rfl (s.ld (k:=0) rfl je rfl) (zM rfl (zO rfl (bx (r:=.ptr id off) rfl rfl e1) (zL rfl e2 (zM rfl (zN rfl (zF rfl (eW _ _) (zL rfl (s.ld (k:=0) rfl je rfl) (zM rfl (zO rfl (bx (r:=.ptr id off) rfl rfl e1) (zL rfl e2 (zO rfl (bx (r:=.ptr lz bo) rfl rfl e3) (zL rfl e4 (zO rfl (az (r:=.int .u8 ((1+z:Nat):Int)) rfl rfl (by rw[show((1+z:Nat):Int)=1+(z:Int) by omega];exact aO (ru (by omega) (by omega)))) ?_))))))))))))))))
  refine zO rfl (bS (p:=some (.int .i64 1)) (q:=some (.int .u8 ((1+z:Nat):Int))) (m:=none) (p':=some 1) (q':=some (1+z)) (m':=none) rfl rfl rfl rfl (by rfl) (by rw[b9 (by omega)];rfl) rfl (fI hv (by omega) (by omega)).1) ?_
  refine zA rfl ?_
  refine aE.nil ⟨⟨aa,aa,aa,aa,aa,aa,aa,aa,aa,aa,aa,aa,aa,aa,aa,aa,aa,aa,aa,aa⟩,?_⟩
  refine WP.ret ⟨aa,_,rfl,?_⟩
  have s:=(s.ae [4]).dG (qL (a:=1) (b:=1+z) (by omega) (by omega))
  rw[←J] at s
  have s:=s.ae [1,1,1,1]
  exact((bQ.2 ⟨bv,cv,us,s⟩).ae [1])
 ·have I:4≤c.length:=by rw[jl,ax h0] at I;exact I
  have J:fN l c=(c.take c.length).drop 4:=by rw[fN,ax h0,ja]
  refine zB rfl cL (by simp;omega) ?_
  refine zk 6 rfl (zY s 0 eW je rfl (zm rfl (zo rfl (bx (r:=.ptr id off) rfl rfl e1) (zl rfl e2 (zo rfl (bS (p:=some (.int .i64 4)) (q:=none) (m:=none) (p':=some 4) (q':=none) (m':=none) rfl rfl rfl rfl (by rfl) rfl rfl (gJ hv I).1) ?_)))))
  refine zk 2 rfl (WP.ret ⟨aa,_,rfl,?_⟩)
  have s:=(s.ae [4]).dG (qL (a:=4) (b:=c.length) I (aM _))
  rw[←J] at s
  have s:=s.ae [1,1,1,1]
  exact((bQ.2 ⟨bv,cv,us,s⟩).ae [1])
theorem Fp (hT:W told)(hc:cs[i]?=some c)(I:jl 0 c)(ff:c.length≤225)(s:Sat h (cH x n 0 b cs::S)):
  Call ⟨Tryz.prog,told⟩ 50 [.ptr x 0,.int .i64 (i:Int)] h fun r h'=>Sat h' (l9 r (c.drop (1+c.getD 0 0))::cH x n 0 b cs::S):=by
 obtain⟨bv,cv,us,s⟩:=bQ.1 s
 obtain⟨u,id,off,e1,e2,Zk,s⟩:=Jf (P:=Tryz.prog) hc bh eZ ah s
 have hv:=s.aq (k:=4) rfl (aY _ _)
 have I:1≤c.length∧1+c.getD 0 0≤c.length:=I
 have J:c[0]?=some (c.getD 0 0):=by grind
 obtain⟨lz,bo,e3,e4⟩:=c7 hv J
 have Hy:c.drop (1+c.getD 0 0)=(c.take c.length).drop (1+c.getD 0 0):=by rw[ja]
 rw[Hy]
 generalize c.getD 0 0=z at I J e3 e4
 have hz:z<256:=hv.1 z (aR J)
 refine Call.of_wp (hT.free _ rfl) Tryz.func50 rfl rfl (zK 5 rfl ?_)
 have z0:=s
 refine WP.drawn [af,af,af,af,af,af,af,af,af,af,af,af,af,af,af,af,af,af,af,af] rfl (by kernel_rfl) (by kernel_rfl) ?_
 refine zM rfl (zN rfl (zF rfl (eW _ _) (zL rfl (s.ld (k:=0) rfl je rfl) (zM rfl (zO rfl (bx (r:=.ptr id off) rfl rfl e1) (zL rfl e2 (zM rfl (zN rfl (zF rfl (eW _ _) (zL rfl (s.ld (k:=0) rfl je rfl) (zM rfl (zO rfl (bx (r:=.ptr id off) rfl rfl e1) (zL rfl e2 (zO rfl (bx (r:=.ptr lz bo) rfl rfl e3) (zL rfl e4 (aE.op rfl rfl rfl (by simp only[isEff,bP]) (b8 rfl (by exact jN Tryz.underlying5 bP (ay (by omega) (by omega)))) ?_))))))))))))))))
 refine zO rfl (az (r:=.int .i64 ((1+z:Nat):Int)) rfl rfl (by rw[show((1+z:Nat):Int)=1+(z:Int) by omega];exact aO (ay (by omega) (by omega)))) ?_
 refine zO rfl (bS (p:=some (.int .i64 ((1+z:Nat):Int))) (q:=none) (m:=none) (p':=some (1+z)) (q':=none) (m':=none) rfl rfl rfl rfl (by rw[b9 (by omega)];rfl) rfl rfl (gJ hv (by omega)).1) ?_
 refine zA rfl ?_
 refine aE.nil ⟨⟨aa,aa,aa,aa,aa,aa,aa,aa,aa,aa,aa,aa,aa,aa,aa,aa,aa,aa,aa,aa,aa⟩,?_⟩
 refine WP.ret ⟨aa,_,rfl,?_⟩
 have s:=(s.ae [4]).dG (qL (a:=1+z) (b:=c.length) (by omega) (aM _))
 have s:=s.ae [1,1,1,1]
 exact((bQ.2 ⟨bv,cv,us,s⟩).ae [1])
theorem Fq (J:W told){k:Ky}{m:Nat}(hc:cs[i]?=some (ie m k))(hm:m<4294967296)(s:Sat h (cH x n l b cs::S)):
  Call ⟨Tryz.prog,told⟩ 78 [.ptr x 0,.int .i64 (i:Int)] h fun r h'=>r=.int .i64 (m:Int)∧Sat h' (cH x n l b cs::S):=by
 obtain⟨bv,cv,us,s⟩:=bQ.1 s
 obtain⟨u,id,off,e1,e2,Zk,s⟩:=Jf (P:=Tryz.prog) hc bh eZ ah s
 have hv:=s.aq (k:=4) rfl (aY _ _)
 have I:=dH 4 m
 have hl:4≤(ie m k).length:=by rw[ie,aX,I];omega
 have ht:((ie m k).take 4).drop 0=le 4 m:=by rw[eC,ie,gj I]
 refine Call.of_wp (J.free _ rfl) Tryz.func78 rfl rfl (zK 8 rfl (zY s 0 eW je rfl (zm rfl (zo rfl (bx (r:=.ptr id off) rfl rfl e1) (zl rfl e2 (zo rfl (bS (p:=none) (q:=some (.int .i64 4)) (m:=none) (p':=none) (q':=some 4) (m':=none) rfl rfl rfl rfl rfl (by rfl) rfl (BZ hv hl).1) ?_))))))
 have s:=(s.ae [4]).dG (qL (a:=0) (b:=4) (eN _) hl)
 rw[ht] at s
 refine zc rfl (E6 J s (k:=0) rfl (aY _ _) (by rw[I];decide)) ?_
 rintro r h' ⟨rfl,rfl⟩
 rw[IM,Av (by simpa using hm)]
 refine zo rfl (b8 rfl (by exact jN dQ bP (ay (by omega) (by omega)))) ?_
 refine zk 2 rfl (WP.ret ⟨aa,_,rfl,?_⟩)
 have s:=s.ae [1,1,1,1]
 exact⟨rfl,(bQ.2 ⟨bv,cv,us,s⟩).del 1⟩
theorem Wy (hT:W told)(s:Sat h (X::Y::S))(I:bX X (b5 kv k))(J:bX Y (b5 vv val))(hk:k.length≤200)(hv:val.length≤200):
  Call ⟨Tryz.prog,told⟩ 47 [kv,vv] h fun r h'=>Sat h' (aQ r (dU (k,val))::X::Y::S):=by
 refine Call.of_wp (hT.free _ rfl) Tryz.func47 rfl rfl (zK 7 rfl (zo rfl (aC rfl rfl rfl (au ak (s.aq (k:=0) rfl I))) (zo rfl (az (r:=.int .i64 ((1+k.length:Nat):Int)) rfl rfl (by rw[show((1+k.length:Nat):Int)=1+(k.length:Int) by omega];exact aO (ay (by omega) (by omega)))) ?_)))
 refine zm rfl (zo rfl (aC rfl rfl rfl (au ak (s.aq (k:=1) rfl J))) (zo rfl (az (r:=.int .i64 ((1+k.length+val.length:Nat):Int)) rfl rfl (by rw[show((1+k.length+val.length:Nat):Int)=((1+k.length:Nat):Int)+(val.length:Int) by omega];exact aO (ay (by omega) (by omega)))) ?_))
 refine aA.any rfl rfl rfl (OpR.rC rfl s rfl rfl rfl rfl (by omega)) ?_
 intro w0 h s
 refine zm rfl (zo rfl (aC rfl rfl rfl (au ak (s.aq (k:=1) rfl I))) (zo rfl (b8 rfl (by exact jN bP Tryz.underlying5 (ru (by omega) (by omega)))) ?_))
 refine aA.any rfl rfl rfl (OpR.A8 rfl s rfl rfl rfl (by omega)) ?_
 intro w1 h s
 refine aA.any rfl rfl rfl (OpR.lX rfl (s.ae [1,0]) (aK _ _) rfl rfl rfl rfl (by simp)) ?_
 intro w2 h s
 have s:=(s.del 1).ae [0,0,0]
 refine zm rfl (aA.any rfl rfl rfl (OpR.lX rfl s I rfl rfl rfl rfl (by simp;omega)) ?_)
 intro w3 h s
 refine zm rfl (aA.any rfl rfl rfl (OpR.lX rfl (s.ae [0,1]) J rfl rfl rfl rfl (by simp;omega)) ?_)
 intro w4 h s
 refine zk 2 rfl (WP.ret ⟨aa,_,rfl,?_⟩)
 have s:=s.ae [0,1,0]
 exact s
theorem Fs (I:W told){m:Nat}(hm:m<4294967296)(s:Sat h (X::S))(J:bX X (b5 kv k))(hk:k.length≤200):
  Call ⟨Tryz.prog,told⟩ 132 [.int .i64 (m:Int),kv] h fun r h'=>Sat h' (aQ r (ie m k)::X::S):=by
 have s:=s.rA
 refine Call.of_wp (I.free _ rfl) Tryz.func132 rfl rfl (zK 7 rfl (zo rfl (b8 rfl (by exact jN bP dQ (gY (by omega) (by omega)))) ?_))
 refine zc rfl (Dp (l:=[]) (z:=4) (n:=m) I s (by decide) (by rw[bI];omega)) ?_
 intro bv h s
 rw[cO] at s
 have h4:=dH 4 m
 refine zm rfl (aA.any rfl rfl rfl (OpR.lX rfl s J rfl rfl rfl rfl (by omega)) ?_)
 intro w h s
 exact zk 2 rfl (WP.ret ⟨aa,_,rfl,s⟩)
end
def SA (a p q r:Nat)(op:V)(data:List Nat)(bA:Nat)(ε:bw): aI:=star [fA a p q r op data bA,e_ r p q ε.1,cM q p ε.2.1,bM p ε.2.2]
def GA (g a p q r:Nat)(data:List Nat)(bA:Nat)(now:List (Int×List Nat))(ε:bw): aI:=star [gO g a now false,fA a p q r (.ptr g 0) data bA,e_ r p q ε.1,cM q p ε.2.1,bM p ε.2.2]
def pgG (now:List (Int×List Nat))(ε:bw)(n:Int): List Nat:=match lookL n now with
 |some b=>b
 |none=>pgA ε n
theorem nu (h:Sm N ε aj): pgG now aj=pgG now ε:=by
 funext n
 unfold pgG
 rw[h.1]
theorem fU {i n:Int}: pgG (cY i b now) ε n=if i=n then b else pgG now ε n:=by
 grind[pgG,kT]
section
variable {told:cy} {p:Nat} {v x op:V} {l:List Nat} {sm:bw→bw→Prop}
theorem Zl (hT:W told)(hB:B≤2000): kf told N B (.iface 24 (.ptr a 0)) (SA a p q r op data bA) pgA:=by
 refine⟨⟨_,_,_,rfl,Wi,fun {h S ε n} I h0 h1 s => ?_⟩,fun hs=>hs.1⟩
 have zR:=I.cR
 have Zm:=qJ (ε:=ε)
 have s:=cG.1 s
 refine(B9 hT (n:=n) s I.ok.ok I.ok.pins (by omega)).mono ?_
 rintro v h ⟨e,b,aj,J,hs⟩
 obtain⟨k1,k2,k3,k4⟩:=J.ec I.ec I.ok.pins
 obtain⟨rfl,rfl⟩:=k3 h0 h1
 rcases hs with⟨he,_⟩|⟨_,u,rfl,s⟩
 ·omega
 ·have s2:Sat h (SA a p q r op data bA aj::aQ u (pgA ε n)::S):=cG.2 (s.ae [1,1,1,1,0])
  exact⟨u,aj,rfl,I.rd J,⟨k2,fun P hP hv=>hP.rd J I.ec hv,J.cR⟩,s2.ae [1]⟩
theorem Jg (hT:W told)(hB:B≤2000)(hw:NW N now): kf told N B (.iface 32 (.ptr g 0)) (GA g a p q r data bA now) (pgG now):=by
 refine⟨⟨_,_,_,rfl,Lu,fun {h S ε n} I h0 h1 s => ?_⟩,fun hs m=>by rw[nu hs]⟩
 have zR:=I.cR
 have Zm:=qJ (ε:=ε)
 have s:=cG.1 s
 refine(IC hT (n:=n) s I.ok (by omega) (fun e he=>iR (hw.good e he).1)).mono ?_
 rintro v h ⟨e,b,aj,J,hs⟩
 obtain⟨k1,k2,k3,k4⟩:=J.ec I.ec I.ok.pins
 obtain⟨rfl,hb⟩:=k3 h0 h1
 have hb:b=pgG now ε n:=hb
 subst hb
 rcases hs with⟨he,_⟩|⟨_,u,rfl,s⟩
 ·omega
 ·have s2:Sat h (GA g a p q r data bA now aj::aQ u (pgG now ε n)::S):=cG.2 (s.ae [1,1,1,1,1,0])
  exact⟨u,aj,rfl,I.zT J,⟨k2,fun P hP hv=>hP.zT J I.ec hv,J.cR⟩,s2.ae [1]⟩
theorem Nz (hT:W told)(hB:B≤2000)(I:EI N B ε)(hw:NW N now)(hi:i<N)(s:Sat h (GA g a p q r data bA now ε::X::S))(hX:bX X (b5 x b))(hp:dX b kd link extra cs):
  Call ⟨Tryz.prog,told⟩ 55 [.ptr g 0,.int .i64 (i:Int),x] h fun v h'=>∃aj,v=.int .i64 0∧EI N B aj∧Sm N ε aj∧NW N (cY (i:Int) b now)∧Sat h' (GA g a p q r data bA (cY (i:Int) b now) aj::X::S):=by
 have zR:=I.cR
 have Zm:=qJ (ε:=ε)
 have hlen:=hp.len
 have hb:=(s.aq (k:=1) rfl hX).1
 have s:=cG.1 s
 refine(Gf hT (n:=(i:Int)) s hX (by omega) I.ok (by omega) (fun e he=>iR (hw.good e he).1)).mono ?_
 rintro v h ⟨e,bH,aj,J,rfl,s⟩
 obtain⟨k1,k2,k3,k4,k5⟩:=J.ec I.ec I.ok.pins
 obtain⟨rfl,rfl⟩:=k5 (by omega) (by omega) hp.good
 exact⟨aj,rfl,I.II J,⟨k2,fun P hP hv=>hP.II J I.ec hv,J.cR⟩,hw.put (by omega) (by omega) hp.good hb,cG.2 s⟩
structure Mo (told:cy)(N:Nat)(lv dd:bw→Prop)(sm:bw→bw→Prop): Prop where
 rf:∀a:bw,sm a a
 tr:∀ {a b c:bw},sm a b→sm b c→sm a c
 pg:∀ {a b:bw},sm a b→∀m,pgA b m=pgA a m
 gr:∀ {g a p q r bA:Nat} {data:List Nat} {now:List (Int×List Nat)},NW N now→I_ told N lv dd sm (.iface 32 (.ptr g 0)) (GA g a p q r data bA now) (pgG now)
 gw:∀ {h:H} {S:List aI} {X:aI} {g a p q r bA i kd link extra:Nat} {data b:List Nat} {now:List (Int×List Nat)} {x:V} {cs:List (List Nat)} {ε:bw},lv ε→NW N now→i<N→Sat h (GA g a p q r data bA now ε::X::S)→bX X (b5 x b)→dX b kd link extra cs →
  Call ⟨Tryz.prog,told⟩ 55 [.ptr g 0,.int .i64 (i:Int),x] h fun v h'=>(∃aj,v=.int .i64 9∧Sat h' (GA g a p q r data bA now aj::X::S)∧dd aj)∨∃aj,v=.int .i64 0∧lv aj∧sm ε aj∧NW N (cY (i:Int) b now)∧Sat h' (GA g a p q r data bA (cY (i:Int) b now) aj::X::S)
 dr:∀ {h:H} {S:List aI} {g a p q r bA:Nat} {data:List Nat} {now:List (Int×List Nat)} {ε:bw} {n:Int},dd ε→NW N now→Sat h (GA g a p q r data bA now ε::S) →
  Call ⟨Tryz.prog,told⟩ 255 [.ptr g 0,.int .i64 n] h fun v h'=>∃(w:V) (e:Int) (aj:bw),v=.aW [w,.int .i64 e]∧dd aj∧Sat h' (GA g a p q r data bA now aj::S)
theorem Mo.live (J:W told)(hB:B≤2000): Mo told N (EI N B) noD (Sm N) :=
 ⟨Sm.refl N,Sm.trans,fun h=>h.1,fun hw=>(Jg J hB hw).m,fun I hw hi s hX hp=>(Nz J hB I hw hi s hX hp).mono fun _ _ k=>.inr k,fun hd=>hd.elim⟩
theorem Mo.pgG (I:Mo told N lv dd sm)(h:sm ε aj): Am.pgG now aj=Am.pgG now ε:=by
 funext n
 unfold Am.pgG
 rw[I.pg h]
def Zn (N g a p q r:Nat)(data:List Nat)(bA:Nat)(dd:bw→Prop)(S:List aI)(h:H): Prop:=∃(ε:bw) (now:List (Int×List Nat)),NW N now∧Sat h (GA g a p q r data bA now ε::S)∧dd ε
theorem ir.put {P:Int→List Nat}(h:ir N R M P)(I:P' 0=P 0)(J:∃kd lk ex,dX (P' 1) kd lk ex [M'])(hl:M'.length=375)(ho:∀j,j<2→bt M' j=true)(hh:∀j,N≤j→bt M' j=false): ir N R M' P' :=
 ⟨by rw[I];exact h.head,h.rl,J,hl,h.n1,h.n2,ho,hh⟩
theorem qM {i:Int}: ∀ {now:List (Int×List Nat)},(cY i b now).length≤now.length+1:=by
 intro now
 induction now<;>grind[cY]
theorem Zo (hT:W told)(hM:Mo told N lv dd sm)(dL:lv ε)(hw:NW N now)(hp:ir N R M (pgG now ε))(hi:i<N)(gC:2≤i){bl:Bool}(s:Sat h (GA g a p q r data bA now ε::S)):
  Call ⟨Tryz.prog,told⟩ 168 [.ptr g 0,.int .i64 (i:Int),.bool bl] h fun v h'=>(v=.int .i64 9∧Zn N g a p q r data bA dd S h')∨∃aj bH,v=.int .i64 0∧lv aj∧sm ε aj∧NW N bH∧bH.length≤now.length+1∧ir N R (if bl then DM M i else Qo M i) (pgG bH aj)∧(∀m,m≠1→pgG bH aj m=pgG now ε m) ∧
   Sat h' (GA g a p q r data bA bH aj::S):=by
 obtain⟨kd,lk,qm,Jh⟩:=hp.marks
 have Zp:=hp.ml
 have tJ:=hp.n2
 have hi8:i/8<M.length:=by omega
 have hb:M[i/8]?=some (M[i/8]'(by omega)):=aG _
 have xO:M.getD (i/8) 0=M[i/8]'(by omega):=by grind
 generalize (M[i/8]'(by omega))=z at hb xO
 -- what is so behind it
 have fin:∀ {aj:bw} {b':List Nat} {M':List Nat},sm ε aj→dX b' kd lk qm [M']→M'.length=375→(∀j,bt M' j=if j=i then bl else bt M j)→ir N R M' (pgG (cY 1 b' now) aj)∧(∀m,m≠1→pgG (cY 1 b' now) aj m=pgG now ε m):=fun {aj b' M'} hs I hl DO =>
  ⟨hp.put (by rw[fU,ax (by decide),hM.pgG hs]) ⟨_,_,_,by rw[fU,aH rfl];exact I⟩ hl (fun j hj=>by rw[DO,ax (by omega)];exact hp.own j hj) (fun j hj=>by rw[DO,ax (by omega)];exact hp.hi j hj),
   fun m hm=>by rw[fU,ax (by omega),hM.pgG hs]⟩
 refine Call.of_wp (hT.free _ rfl) Tryz.func168 rfl rfl (zK 7 rfl (zo rfl (qR rfl (mki_of kU rfl)) (zm rfl (zo rfl (az (r:=.int .i64 0) rfl rfl (Tk (by omega))) ?_))))
 refine zc rfl (Bh hT (hM.gr hw) dL (by omega) Jh Zp s) ?_
 rintro v h (⟨lZ,rfl,s,hd⟩|⟨w2,u2,lZ,rfl,qu,l7,s⟩)
 ·skip
  refine zk 12 rfl (zB rfl aN (by decide) ?_)
  exact zk 7 rfl (WP.ret ⟨aa,_,rfl,.inl ⟨rfl,lZ,now,hw,s,hd⟩⟩)
 have hv:=(s.buf (k:=0) rfl).view
 have hz:z<256:=hv.1 z (aR hb)
 have h2k:2^(i%8)<256:=vp (a:=2) (n:=8) (by decide) (by omega)
 obtain⟨id,off,e1,e2⟩:=c7 hv hb
 refine zk 12 rfl (zC rfl aN (rfl) (zk 6 rfl (zb rfl (Zi (by omega)) ?_)))
 refine zb rfl (Nc (a:=i) (b:=8) (by decide)) ?_
 refine zb rfl (Ze (k:=i%8) (by omega)) ?_
 refine zk 6 rfl (zb rfl (Zi (by omega)) ?_)
 refine zb rfl (Bg (a:=i) (b:=8) (by decide) (by omega)) ?_
 refine zk 6 rfl ?_
 cases bl with
 |true =>
  obtain⟨uL,vg,e3,h4,e4,s2⟩:=gD s (i:=i/8) (b:=Nat.lor z (2^(i%8))) (by omega) (Qp hz (by omega))
  have ee:V.ptr id off=V.ptr uL vg:=by grind
  rw[←ee] at e4
  refine zK 4 rfl (zo rfl (bx (r:=.ptr id off) rfl rfl e1) (zl rfl e2 (zm rfl (zb rfl (aa1 hz (by omega)) ?_))))
  refine zo rfl (bx (r:=.ptr id off) rfl rfl e1) (zS rfl (⟨h4,e4,s2⟩) ?_)
  rintro h s
  rw[←xO] at s
  have s:Sat h (aQ u2 (DM M i)::_):=s
  refine zk 6 rfl (zc rfl (LH (i:=0) (c:=M) hT (s.ae [1,0]) (aK _ _) (aK _ _) Jh rfl LR) ?_)
  rintro v h ⟨w3,b',rfl,I,s⟩
  refine zk 9 rfl (zC rfl aN (rfl) (zk 7 rfl (zo rfl (az (r:=.int .i64 0) rfl rfl (Tk (by omega))) ?_)))
  refine zb rfl (by exact aO (ay (by omega) (by omega))) ?_
  refine zm rfl (zc rfl (hM.gw (i:=1) qu hw (by omega) (s.ae [3,0]) (aK _ _) I) ?_)
  rintro v h (⟨J,rfl,s,hd⟩|⟨J,rfl,BR,r7,DP,s⟩)
  ·skip
   exact zk 2 rfl (WP.ret ⟨aa,_,rfl,.inl ⟨rfl,J,now,hw,((s.ae [0]).del 3 |>.del 2).del 1,hd⟩⟩)
  refine zk 2 rfl (WP.ret ⟨aa,_,rfl,?_⟩)
  obtain⟨f1,f2⟩:=fin (hM.tr l7 r7) I (by rw[LR];exact Zp) (fun j=>UX hi8)
  exact .inr ⟨J,_,rfl,BR,hM.tr l7 r7,DP,qM,f1,f2,((s.ae [0]).del 3 |>.del 2).del 1⟩
 |false =>
  obtain⟨uL,vg,e3,h4,e4,s2⟩:=gD s (i:=i/8) (b:=Nat.land z (255-2^(i%8))) (by omega) (Fo hz)
  have ee:V.ptr id off=V.ptr uL vg:=by grind
  rw[←ee] at e4
  refine zK 4 rfl (zo rfl (bx (r:=.ptr id off) rfl rfl e1) (zl rfl e2 (zm rfl (zb rfl (Qq hz h2k) (zo rfl (bx (r:=.ptr id off) rfl rfl e1) (zS rfl (⟨h4,e4,s2⟩) ?_))))))
  rintro h s
  rw[←xO] at s
  have s:Sat h (aQ u2 (Qo M i)::_):=s
  refine zk 6 rfl (zc rfl (LH (i:=0) (c:=M) hT (s.ae [1,0]) (aK _ _) (aK _ _) Jh rfl LS) ?_)
  rintro v h ⟨w3,b',rfl,I,s⟩
  refine zk 9 rfl (zC rfl aN (rfl) (zk 7 rfl (zo rfl (az (r:=.int .i64 0) rfl rfl (Tk (by omega))) ?_)))
  refine zb rfl (by exact aO (ay (by omega) (by omega))) ?_
  refine zm rfl (zc rfl (hM.gw (i:=1) qu hw (by omega) (s.ae [3,0]) (aK _ _) I) ?_)
  rintro v h (⟨J,rfl,s,hd⟩|⟨J,rfl,BR,r7,DP,s⟩)
  ·skip
   exact zk 2 rfl (WP.ret ⟨aa,_,rfl,.inl ⟨rfl,J,now,hw,((s.ae [0]).del 3 |>.del 2).del 1,hd⟩⟩)
  refine zk 2 rfl (WP.ret ⟨aa,_,rfl,?_⟩)
  obtain⟨f1,f2⟩:=fin (hM.tr l7 r7) I (by rw[LS];exact Zp) (fun j=>aa0 hi8)
  exact .inr ⟨J,_,rfl,BR,hM.tr l7 r7,DP,qM,f1,f2,((s.ae [0]).del 3 |>.del 2).del 1⟩
theorem Wz (hT:W told)(J:Mo told N lv dd sm)(dL:lv ε)(hw:NW N now)(hp:ir N R M (pgG now ε)){lo:Nat}(jC:lo<N)(h0:bt M lo=false)(h1:∀j,j<lo→bt M j=true)(s:Sat h (GA g a p q r data bA now ε::S)):
  Call ⟨Tryz.prog,told⟩ 100 [.ptr g 0] h fun v h'=>(v=.aW [.int .i64 0,.int .i64 9]∧Zn N g a p q r data bA dd S h')∨∃aj bH,v=.aW [.int .i64 (lo:Int),.int .i64 0]∧lv aj∧sm ε aj∧NW N bH∧bH.length≤now.length+2∧ir N R (DM M lo) (pgG bH aj)∧(∀m,m≠1→m≠(lo:Int)→pgG bH aj m=pgG now ε m)∧dX (pgG bH aj lo) 0 0 0 []∧pgG bH aj lo=va 0 ∧
   Sat h' (GA g a p q r data bA bH aj::S):=by
 have BG:=hp.n1
 have h2:2≤lo:=by
  rcases oQ lo 2 with hq|hq
  ·rw[hp.own lo hq] at h0;cases h0
  ·exact hq
 refine Call.of_wp (hT.free _ rfl) Tryz.func100 rfl rfl (zK 8 rfl (zo rfl (qR rfl (mki_of kU rfl)) (zc rfl (Tl hT (J.gr hw) dL (by omega) hp jC h0 h1 s) ?_)))
 rintro v h (⟨mw,rfl,s,hd⟩|⟨mw,rfl,ow,f_,s⟩)
 ·skip
  refine zk 7 rfl (WP.block (zK 3 rfl (zB rfl aN (by decide) ?_)))
  exact zk 9 rfl (WP.ret ⟨aa,_,rfl,.inl ⟨rfl,mw,now,hw,s,hd⟩⟩)
 have Jh:ir N R M (pgG now mw):=by rw[J.pgG f_];exact hp
 refine zk 7 rfl (WP.block (zK 3 rfl (zC rfl aN (rfl) (zk 6 rfl (zC rfl aL (by simp) ?_)))))
 refine za rfl (zv (zj rfl (WP.skip (zw (zg rfl (zk 2 rfl (zc rfl (Zo (bl:=true) hT J ow hw Jh jC h2 s) ?_)))))))
 rintro v h (⟨rfl,hd⟩|⟨lZ,Ft,rfl,qu,l7,UY,iq,I,v8,s⟩)
 ·skip
  refine zk 5 rfl (zB rfl aN (by decide) ?_)
  exact zk 8 rfl (WP.ret ⟨aa,_,rfl,.inl ⟨rfl,hd⟩⟩)
 refine za rfl (zv (zg rfl (zm rfl (zh rfl (az rfl rfl aN) (rfl) (zv (zj rfl (WP.skip (zg rfl (zc rfl (Gh (kd:=0) hT s (by decide)) ?_)))))))))
 rintro v h ⟨u,rfl,s⟩
 have q_:dX (va 0) 0 0 0 []:=dX.new (k:=0)
 generalize hbn:va 0=b' at s q_
 refine zk 12 rfl (zc rfl (J.gw (i:=lo) qu UY jC (s.ae [1,0]) (aK _ _) q_) ?_)
 rintro v h (⟨rU,rfl,s,hd⟩|⟨rU,rfl,BR,r7,DP,s⟩)
 ·skip
  refine zk 5 rfl (zB rfl aN (by decide) ?_)
  exact zk 8 rfl (WP.ret ⟨aa,_,rfl,.inl ⟨rfl,rU,Ft,UY,s.del 1,hd⟩⟩)
 refine zk 5 rfl (zC rfl aN (rfl) (zk 9 rfl (WP.ret ⟨aa,_,rfl,?_⟩)))
 have I:ir N R (DM M lo) (pgG Ft lZ):=I
 refine .inr ⟨rU,_,rfl,BR,J.tr (J.tr f_ l7) r7,DP,cX qM (by omega),I.put (by rw[fU,ax (by omega),J.pgG r7]) ?_ I.ml I.own I.hi,fun m kR Hu=>by rw[fU,ax (by omega),J.pgG r7,v8 m kR,J.pgG f_],by grind[fU],by rw[fU,aH rfl],s.del 1⟩
 rw[fU,ax (by omega),J.pgG r7]
 exact I.marks
theorem Qw (hT:W told)(hB:B≤2000)(I:EI N B ε)(hw:NW N now)(hp:ir N R M (pgG now ε)){lo:Nat}(J:lo<N)(h0:bt M lo=false)(h1:∀j,j<lo→bt M j=true)(s:Sat h (GA g a p q r data bA now ε::S)):
  Call ⟨Tryz.prog,told⟩ 100 [.ptr g 0] h fun v h'=>∃aj bH,v=.aW [.int .i64 (lo:Int),.int .i64 0]∧EI N B aj∧Sm N ε aj∧NW N bH∧bH.length≤now.length+2∧ir N R (DM M lo) (pgG bH aj)∧(∀m,m≠1→m≠(lo:Int)→pgG bH aj m=pgG now ε m)∧dX (pgG bH aj lo) 0 0 0 []∧pgG bH aj lo=va 0 ∧
   Sat h' (GA g a p q r data bA bH aj::S) :=
 (Wz hT (Mo.live hT hB) I hw hp J h0 h1 s).mono fun _ _ k=>k.resolve_left fun⟨_,_,_,_,_,q⟩=>q
theorem Tn (hT:W told)(hM:Mo told N lv dd sm)(dL:lv ε)(hw:NW N now)(hp:ir N R M (pgG now ε))(h1:∀j,j<N→bt M j=true)(s:Sat h (GA g a p q r data bA now ε::S)):
  Call ⟨Tryz.prog,told⟩ 100 [.ptr g 0] h fun v h'=>(v=.aW [.int .i64 0,.int .i64 9]∧Zn N g a p q r data bA dd S h')∨∃aj,v=.aW [.int .i64 0,.int .i64 7]∧lv aj∧sm ε aj∧Sat h' (GA g a p q r data bA now aj::S):=by
 have BG:=hp.n1
 refine Call.of_wp (hT.free _ rfl) Tryz.func100 rfl rfl (zK 8 rfl (zo rfl (qR rfl (mki_of kU rfl)) (zc rfl (Qu hT (hM.gr hw) dL (by omega) hp h1 s) ?_)))
 rintro v h (⟨I,rfl,s,hd⟩|⟨I,rfl,J,f_,s⟩)
 ·skip
  refine zk 7 rfl (WP.block (zK 3 rfl (zB rfl aN (by decide) ?_)))
  exact zk 9 rfl (WP.ret ⟨aa,_,rfl,.inl ⟨rfl,I,now,hw,s,hd⟩⟩)
 refine zk 7 rfl (WP.block (zK 3 rfl (zC rfl aN (rfl) (zk 6 rfl (zB rfl aL (by decide) ?_)))))
 exact zk 8 rfl (WP.ret ⟨aa,_,rfl,.inr ⟨I,rfl,J,f_,s⟩⟩)
theorem NA (J:W told)(hB:B≤2000)(I:EI N B ε)(hw:NW N now)(hp:ir N R M (pgG now ε))(h1:∀j,j<N→bt M j=true)(s:Sat h (GA g a p q r data bA now ε::S)):
  Call ⟨Tryz.prog,told⟩ 100 [.ptr g 0] h fun v h'=>∃aj,v=.aW [.int .i64 0,.int .i64 7]∧EI N B aj∧Sm N ε aj∧Sat h' (GA g a p q r data bA now aj::S) :=
 (Tn J (Mo.live J hB) I hw hp h1 s).mono fun _ _ k=>k.resolve_left fun⟨_,_,_,_,_,q⟩=>q
end
def sdep : Code→Nat
 |.seq a b=>1+max (sdep a) (sdep b)
 |_=>1
def WPd (C:fB)(aB:Nat)(code:Code)(E:List (Nat×V))(h:H)(d:pQ)(Q:Ex→List (Nat×V)→H→pQ→Prop): Prop :=
 ∀env,j5 env E→∃N0 ex I h' E' J,(∀N m,N0≤N→sdep code≤m→evTop C N m code ⟨env,aB,h⟩ d=some (ex,⟨I,aB,h'⟩,J))∧j5 I E'∧Q ex E' h' J
section
variable {aB:Nat} {Q:Ex→List (Nat×V)→H→pQ→Prop}
def noDef : List Oper→Bool
 |[]=>true
 |o::l=>(match o.op with
  |.defer _=>false
  |_=>true)&&noDef l
def noDefC : Code→Bool
 |.seq a b=>noDefC a&&noDefC b
 |.region _ ops false=>noDef ops.toList
 |_=>true
theorem Qx {self:Self}{L:List Oper}: ∀ {l:List Oper} {s s':St},noDef l=true→evOps C self L l s=some s'→evOpsD C self L l s d=some (s',d):=by
 intro l
 induction l<;>grind[evOps,noDef,evOpsD]
theorem evTop_of : ∀ {code:Code} {n:Nat} {s:St} {ex:Ex} {s':St} {d:pQ},noDefC code=true→ev C n code s=some (ex,s')→∀N m,n≤N→sdep code≤m→evTop C N m code s d=some (ex,s',d):=by
 have leaf:∀ {code:Code} {n:Nat} {s:St} {ex:Ex} {s':St} {d:pQ} {N m:Nat},(∀m,evTop C N (m+1) code s d=match ev C N code s with
   |some (ex,s')=>some (ex,s',d)
   |none=>none)→ev C n code s=some (ex,s')→n≤N→1≤m→evTop C N m code s d=some (ex,s',d):=fun {code n s ex s' d N m} he I J hm=>by
  obtain⟨k,rfl⟩:∃k,m=k+1:=⟨m-1,by omega⟩
  rw[he,gH J _ _ _ I]
 intro code
 induction code with
 |seq a b iha ihb =>
  intro n s ex s' d hn I N m J hm
  simp only[noDefC,bF] at hn
  simp only[sdep] at hm
  obtain⟨k,rfl⟩:∃k,m=k+1:=⟨m-1,by omega⟩
  cases n with
  |zero=>cases I
  |succ n =>
   rw[iQ] at I
   simp only[evStep] at I
   cases ha:ev C n a s with
   |none=>grind
   |some r =>
    obtain⟨e1,s1⟩:=r
    have h1:=iha (d:=d) hn.1 ha N k (by omega) (by omega)
    simp only[evTop,h1]
    rw[ha] at I
    cases e1 with
    |normal=>exact ihb hn.2 I N k (by omega) (by omega)
    |exit i=>grind
    |ret=>grind
 |region id ops draw =>
  intro n s ex s' d hn I N m J hm
  cases draw with
  |true=>exact leaf (fun m=>rfl) I J hm
  |false =>
   obtain⟨k,rfl⟩:∃k,m=k+1:=⟨m-1,by have:1≤m:=hm;omega⟩
   cases n with
   |zero=>cases I
   |succ n =>
    rw[iQ] at I
    simp only[evStep,aS] at I
    cases ho:evOps C (ev C n) ops.toList ops.toList s with
    |none=>grind
    |some s1 =>
     rw[ho] at I
     obtain⟨rfl,rfl⟩:=I
     have h2:=pN (gH (C:=C) (show n≤N by omega)) _ _ _ ho
     simp only[evTop,Qx (d:=d) hn h2]
 |_=>intro n s ex s' d hn I N m J hm;exact leaf (fun m=>rfl) I J hm
theorem WPd.of_wp (J:noDefC code=true)(hw:WP C aB code E h fun ex E' h'=>Q ex E' h' d): WPd C aB code E h d Q:=by
 intro env hE
 obtain⟨N,ex,I,h',E',h1,h2,h3⟩:=hw env hE
 exact⟨N,ex,I,h',E',d,fun M m hM hm=>evTop_of J h1 M m hM hm,h2,h3⟩
theorem WPd.seq {a b:Code}(hw:WPd C aB a E h d fun ex E' h' J=>match ex with
  |.normal=>WPd C aB b E' h' J Q
  |ex=>Q ex E' h' J): WPd C aB (.seq a b) E h d Q:=by
 intro env hE
 obtain⟨N,ex,I,h',E',J,h1,h2,h3⟩:=hw env hE
 have one:∀M m,N≤M→sdep (.seq a b)≤m+1→evTop C M m a ⟨env,aB,h⟩ d=some (ex,⟨I,aB,h'⟩,J):=fun M m hM hm=>h1 M m hM (by simp only[sdep] at hm;omega)
 have out:(match ex with|.normal=>False|_=>True)→Q ex E' h' J→∃N0 ex I h' E' J,(∀N m,N0≤N→sdep (.seq a b)≤m→evTop C N m (.seq a b) ⟨env,aB,h⟩ d=some (ex,⟨I,aB,h'⟩,J))∧j5 I E'∧Q ex E' h' J:=fun hx hq=>by
  refine⟨N,ex,I,h',E',J,fun M m hM hm => ?_,h2,hq⟩
  obtain⟨k,rfl⟩:∃k,m=k+1:=⟨m-1,by simp only[sdep] at hm;omega⟩<;>grind[evTop]
 cases ex with
 |normal =>
  obtain⟨K,qm,ab5,HM,E2,d2,g1,g2,g3⟩:=h3 I h2
  refine⟨max N K,qm,ab5,HM,E2,d2,fun M m hM hm => ?_,g2,g3⟩
  obtain⟨k,rfl⟩:∃k,m=k+1:=⟨m-1,by simp only[sdep] at hm;omega⟩<;>grind[sdep,evTop]
 |exit i=>simp_all
 |ret=>simp_all
theorem WPd.defer {ops:Array Oper}{I J:Oper}{x1 y:Operand}{cl:Go.Call}{v:V}{first cap:List V}(hL:ops.toList=[I,J])(g1:I.guard=none)(d1:I.dst=some k)(p1:I.op=.move x1)(hk:Nat.blt k aB=true)(hx:bq E x1=some v)
 (g2:J.guard=none)(d2:J.dst=none)(p2:J.op=.defer cl)(hc:cl.callee=.value y)(hy:bq ((k,v)::E) y=some (.fn (.func g) first cap))(ha:lookArgs ((k,v)::E) cl.args.toList=some args)
 (hq:Q .normal ((k,v)::E) h ((g,first++args,cap)::d)): WPd C aB (.region id ops false) E h d Q:=by
 intro env hE
 have Zc:j5 (env.set k (some v)) ((k,v)::E):=hE.set _ _
 refine⟨0,.normal,env.set k (some v),h,(k,v)::E,(g,first++args,cap)::d,fun M m _ hm => ?_,Zc,hq⟩
 obtain⟨j,rfl⟩:∃j,m=j+1:=⟨m-1,by have:1≤m:=hm;omega⟩
 have e1:evOpsD C (ev C M) [I,J] [I,J] ⟨env,aB,h⟩ d=some (⟨env.set k (some v),aB,h⟩,(g,first++args,cap)::d):=by
  have HA:wantedV [I,J] env I=true:=by simp[wantedV,g1]
  have he1:evOp C (ev C M) env h I=some (v,h):=by simp only[evOp,p1,b6 hE hx];rfl
  have Cc:St.put ⟨env,aB,h⟩ I.dst v h=some ⟨env.set k (some v),aB,h⟩:=by grind[St.put]
  rw[evOpsD]
  grind[evOpsD,mM,b6]
 simp only[evTop,hL,e1]
theorem toldDefer_do {f:FuncId}{R:V→H→Prop}(hf:C.P.funcs[f]?=some fn)(hb:fn.body=some code)(hl:Nat.blt fn.ntmps args.length=false)(hdp:sdep code≤1000)
 (hw:WPd C fn.ntmps code (argE args 0) h [] fun ex E' h' d'=>(match ex with|.exit _=>False|_=>True)∧∃I v,(∃N0,∀N,N0≤N→runDefs C N d' h'=some I)∧resLE C.P E' I fn.results.toList=some v∧R v I):
  ∃v I,(∃N0,∀N,N0≤N→toldDefer C N f args h=some (v,I))∧R v I:=by
 obtain⟨N0,ex,J,h',E',d',h1,I,hx,h3,v,⟨N1,hr⟩,rO,hR⟩:=hw _ (KS args)
 refine⟨v,h3,⟨max N0 N1,fun N hN => ?_⟩,hR⟩
 have e1:=h1 N 1000 (by omega) hdp
 have e3:resOf C.P ⟨J,fn.ntmps,h3⟩ fn.results.toList=some v:=by
  unfold resLE at rO
  cases hm:mapO (resE C.P E' h3) fn.results.toList with
  |none=>grind
  |some vs =>
   have BC:=KR (P:=C.P) (s:=⟨J,fn.ntmps,h3⟩) I hm
   grind[resOf]
 unfold toldDefer
 simp only[hf,hb,hl,aS,e1]
 cases ex with
 |exit i=>grind
 |normal=>grind
 |ret=>grind
theorem Ks {g:FuncId}{v:V}{J:H}(ht:C.told g=none)(hf:C.P.funcs[g]?=some fn)(hb:fn.body=some code)(hq:quietParts code=none)(hc:gQ C g args h v J): ∃I,∀N,I≤N→runDefs C N [(g,args,[])] h=some J:=by
 obtain⟨I,h0⟩:=hc
 refine⟨I,fun N hN => ?_⟩
 have e:=pM (gH (C:=C) hN) h0
 grind[runDefs,defCall]
end
def Ji (f:FuncId)(args:List V)(h:H)(r:V×H): Prop:=∃I,∀N,I≤N→toldDefer CB N f args h=some r
theorem Call.defer {told:cy}{f:FuncId}{R:V→H→Prop}(ht:told f=some (oo Tryz.prog f (Ji f)))(hf:Tryz.prog.funcs[f]?=some fn)(hb:fn.body.isSome=true)
 (hd:∃v I,(∃J,∀N,J≤N→toldDefer CB N f args h=some (v,I))∧R v I): Call ⟨Tryz.prog,told⟩ f args h R:=by
 obtain⟨v,I,⟨J,h0⟩,hR⟩:=hd
 obtain⟨r,e1,N1,h1⟩:=uy (P:=Tryz.prog) (f:=f) (kr:=Ji f) (args:=args) (h:=h) (r:=(v,I)) ⟨J,h0⟩ (fun c w rN hw=>HP (C:=CB) zG w_ (h0 J (aM _)) rN hw)
 have:r=(v,I):=by
  have a:=h0 (max J N1) (by omega)
  grind
 subst this
 exact⟨v,I,gQ.told ht hf hb e1,hR⟩
abbrev LV := List V→H→V×H→Prop
noncomputable def toldP (l:List (Nat×LV))(base:Nat→Option (List V→H→Option (V×H)))(f:Nat): Option (List V→H→Option (V×H)) :=
 match l with
 |[]=>base f
 |x::l=>cond (Nat.beq f x.1) (some (oo Tryz.prog x.1 x.2)) (toldP l base f)
theorem WA {l:List (Nat×LV)}(h:∀x∈l,inL Ij x.1=true∧x.1≠211∧x.1≠61): W (toldP l qW):=by
 induction l with
 |nil=>exact W.base
 |cons x l I =>
  have I:=I fun y hy=>h y (bR _ hy)
  obtain⟨h1,h2,h3⟩:=h x bO
  refine⟨fun f J => ?_,?_,?_⟩
  ·have:f≠x.1:=fun e=>by subst e;rw[h1] at J;cases J
   simp only[toldP,eD this,aS];exact I.free f J
  ·simp only[toldP,eD (lN h2),aS];exact I.more
  ·simp only[toldP,eD (lN h3),aS];exact I.sorted
theorem To {l : List (Nat × LV)} (h : ∀ x ∈ l, ∃ fn, Tryz.prog.funcs[x.1]? = some fn ∧ fn.body.isSome = true ∧ (fn.name == "runtime.NumGoroutine") = false) : gP ⟨Tryz.prog, toldP l qW⟩ := by
 induction l with
 | nil => exact w_
 | cons x l J =>
  have J := J fun y hy => h y (bR _ hy)
  intro f g I
  simp only [toldP] at I
  by_cases h1 : f = x.1
  ·subst h1
   rw [qy rfl, ag] at I
   simp only [aD] at I
   subst I
   exact PN (h x bO)
  ·rw [eD h1, aS] at I
   exact J f g I
section
variable {c:Ctx} {σ:H} {w:World}
set_option maxRecDepth 100000 in
theorem Qy {x y:Value}{a:List Nat}(I:∀z∈a,z<256)(J:∀z∈b,z<256)
 (hx:(Extern.Bytes.bytesOf x).run Tryz.prog w=.ok ⟨(a.map UInt8.ofNat).toArray⟩ w)(hy:(Extern.Bytes.bytesOf y).run Tryz.prog w=.ok ⟨(b.map UInt8.ofNat).toArray⟩ w):
  Calls Tryz.prog 116 #[x,y] w fun e w'=>e=.returned (.int .i64 (cmpN a b))∧w'=w:=by
 go_enter I8,Tryz.ntmps116
 go_wp2
 rw[run_callFunc_extern Tryz.func184 (by kernel_rfl) (by kernel_rfl) (by kernel_rfl) (e:=Extern.BytealgCompare.compare) (by kernel_rfl),Wv I J hx hy]
 simp only[Result.andThen]
 rw[Oper.upon_value]
 go_wp2
 go_ret
 exact⟨rfl,rfl⟩
theorem DQ {x:V}{l:List Nat}(h:Rel c σ w)(hw:wf c x)(hv:View σ x l): (Extern.Bytes.bytesOf (conc c x)).run Tryz.prog w=.ok ⟨(l.map UInt8.ofNat).toArray⟩ w:=by
 have I:=hv.1
 have e:bytesOf (ofBytes l)=some l:=Dz I
 rcases hv.2 with⟨rfl|⟨a,rfl⟩,rfl⟩|⟨id,off,cap,n,cs,st,rfl,_⟩
 ·simp only[conc];rfl
 ·simp only[conc];rfl
 ·exact(Kr (P:=Tryz.prog) h hw (by simp only[byteList,hv.rdN.2,e])).2
end
def Jj : LV:=fun args h r=>∃x y a b,args=[x,y]∧View h x a∧View h y b∧r=(.int .i64 (cmpN a b),h)
structure WB (told:cy): Prop where
 w:W told
 cmp:told 116=some (oo Tryz.prog 116 Jj)
theorem Kt : ∀ {a b:List Nat},ofBytes a=ofBytes b→a=b:=by
 intro a
 induction a with
 |nil=>intro b h;cases b with
  |nil=>rfl
  |cons y b=>cases h
 |cons x a I =>
  intro b h
  cases b with
  |nil=>cases h
  |cons y b =>
   simp only[ofBytes,jb,List.cons.injEq,V.int.injEq,true_and] at h
   rw[I h.2,Int.ofNat.inj h.1]
theorem View.uniq {x:V}{a:List Nat}(J:View h x a)(I:View h x b): a=b:=by
 rcases J.2 with⟨rfl|⟨z,rfl⟩,rfl⟩|⟨id,off,cap,n,cs,st,rfl,_⟩
 ·rcases I.2 with⟨_,rfl⟩|⟨id,off,cap,n,cs,st,e,_⟩
  ·rfl
  ·cases e
 ·rcases I.2 with⟨_,rfl⟩|⟨id,off,cap,n,cs,st,e,_⟩
  ·rfl
  ·cases e
 ·have e1:=J.rdN
  have e2:=I.rdN
  rw[e1.2] at e2
  exact Kt (bp e2.2)
section
variable {told:cy} {a k:List Nat}
theorem nK (hT:WB told){xv:V}(J:View h xv a)(hy:View h y c): Call ⟨Tryz.prog,told⟩ 116 [xv,y] h fun r h'=>r=.int .i64 (cmpN a c)∧h'=h:=by
 obtain⟨r,h3,x2,y2,a2,c2,e1,v1,v2,rfl⟩:=uy (P:=Tryz.prog) (f:=116) (kr:=Jj) (args:=[xv,y]) (h:=h) (r:=(.int .i64 (cmpN a c),h)) ⟨xv,y,a,c,rfl,J,hy,rfl⟩ fun cx w I hw=>by
  unfold jm
  refine Calls.mono (Qy J.1 hy.1 (DQ I (hw xv (by simp)) J) (DQ I (hw y (by simp)) hy)) ?_
  rintro e w' ⟨rfl,rfl⟩
  exact⟨cx,by simp only[conc],by simp only[wf],I,cI.refl cx w'⟩
 injection e1 with e1 e2
 injection e2 with e2 _
 subst e1 e2
 rw[J.uniq v1,hy.uniq v2]
 exact⟨_,_,gQ.told hT.cmp I8 rfl h3,rfl,rfl⟩
theorem jH.get {e d:En}(h:jH lo hi es)(J:es[i]?=some e)(h2:es[j]?=some d)(I:i<j): e.1<d.1:=by
 have:=List.pairwise_iff_getElem.1 h.jX i j (List.getElem?_eq_some_iff.1 J).1 (List.getElem?_eq_some_iff.1 h2).1 I
 rwa [(List.getElem?_eq_some_iff.1 J).2,(List.getElem?_eq_some_iff.1 h2).2] at this
theorem wq {e:En}(h:jH lo hi es)(he:es[i]?=some e): (es.map dU)[i]?=some (dU e)∧jl 0 (dU e)∧(dU e).length≤225:=by
 obtain⟨s1,s2,I⟩:=h.sz e (aR he)
 refine⟨by rw[jv,he];rfl,?_,?_⟩
 ·show 1≤(dU e).length∧1+(dU e).getD 0 0≤(dU e).length
  exact⟨by simp[dU],by simp[dU];omega⟩
 ·simp[dU];omega
noncomputable def lsL : Code:=cE [1,1,0,0,0] ((Tryz.f46.body).getD .skip)
theorem NB (hT:WB told)(hX:bX X (b5 kv k))(hN:jH lo hi es)(hlen:es.length≤512): ∀(j a z:Nat) (h:H) (E:List (Nat×V)) (Q:Ex→List (Nat×V)→H→Prop),z-a≤j→a≤z→z≤es.length →
  (∀i e,es[i]?=some e→i<a→e.1<k)→(∀i e,es[i]?=some e→z≤i→k≤e.1)→Sat h (cH x n 0 b (es.map dU)::X::S)→Has E [(0,.ptr x 0),(1,kv),(6,.int .i64 (a:Int)),(7,.int .i64 (z:Int))] →
  (∀E' h' i,BP es k i→Has E' [(0,.ptr x 0),(1,kv),(6,.int .i64 (i:Int))]→Sat h' (cH x n 0 b (es.map dU)::X::S)→Q (.exit 0) E' h')→WP ⟨Tryz.prog,told⟩ 45 (.loop lsL) E h Q:=by
 have hW:=hT.w
 intro j
 induction j with
 |zero =>
  intro a z h E Q hj UC hz h1 h2 s hE hq
  have:a=z:=by omega
  subst this
  refine WP.loop (WP.has hE (zK 5 rfl (zC rfl aL (by simp) ?_)))
  exact zk 2 rfl (WP.exit (hq _ _ a ⟨hz,h1,h2⟩ ⟨rfl,rfl,rfl,aa⟩ s))
 |succ j ih =>
  intro a z h E Q hj UC hz h1 h2 s hE hq
  by_cases Tp:a=z
  ·subst Tp
   refine WP.loop (WP.has hE (zK 5 rfl (zC rfl aL (by simp) ?_)))
   exact zk 2 rfl (WP.exit (hq _ _ a ⟨hz,h1,h2⟩ ⟨rfl,rfl,rfl,aa⟩ s))
  ·obtain⟨m,hm⟩:∃m,m=(a+z)/2:=⟨_,rfl⟩
   obtain⟨e,he⟩:∃e,es[m]?=some e:=⟨_,aG (by omega)⟩
   obtain⟨c1,c2,c3⟩:=wq hN he
   refine WP.loop (WP.has hE (zK 5 rfl (zB rfl aL (by simp;omega) ?_)))
   refine zk 3 rfl (WP.block (zK 4 rfl (zo rfl (az (r:=.int .i64 ((a+z:Nat):Int)) rfl rfl (by rw[show((a+z:Nat):Int)=(a:Int)+(z:Int) by omega];exact aO (ay (by omega) (by omega)))) ?_)))
   refine zo rfl (az (r:=.int .i64 (m:Int)) rfl rfl (by rw[hm];exact Bg (b:=2) (by decide) (by omega))) ?_
   refine zk 6 rfl (zc rfl (nJ hW c1 c2 (by decide) c3 s) ?_)
   intro kv2 h s
   rw[pE] at s
   refine zm rfl (zc rfl (nK hT (s.aq (k:=0) rfl (aY _ _)) (s.aq (k:=2) rfl hX)) ?_)
   rintro r h' ⟨rfl,rfl⟩
   by_cases I:e.1<k
   ·skip
    refine zB rfl aL (decide_eq_true ((qK _ _).1.2 I)) (zk 4 rfl (zb rfl (by exact aO (ay (by omega) (by omega))) ?_))
    refine za rfl (zv ?_)
    refine ih (m+1) z _ _ Q (by omega) (by omega) hz (fun i d J hi => ?_) h2 s.drop ⟨rfl,rfl,rfl,rfl,aa⟩ hq
    by_cases q:i=m
    ·subst q
     rw[he] at J
     obtain rfl:=bp J
     exact I
    ·have:=hN.get J he (by omega)
     grind
   ·skip
    refine zh rfl (az rfl rfl aL) (decide_eq_false (fun q=>I ((qK _ _).1.1 q))) (zv (zj rfl (zr rfl (zk 2 rfl (zv ?_)))))
    refine ih a m _ _ Q (by omega) (by omega) (by omega) h1 (fun i d J hi => ?_) s.drop ⟨rfl,rfl,rfl,rfl,aa⟩ hq
    by_cases q:i=m
    ·subst q
     rw[he] at J
     obtain rfl:=bp J
     exact List.not_lt.1 I
    ·have:=hN.get he J (by omega)
     grind
theorem Cg (hT:WB told)(hX:bX X (b5 kv k))(hN:jH lo hi es)(hlen:es.length≤512)(s:Sat h (cH x n 0 b (es.map dU)::X::S)):
  Call ⟨Tryz.prog,told⟩ 46 [.ptr x 0,kv] h fun v h'=>∃i:Nat,v=.aW [.int .i64 (i:Int),.bool (sameE es k i)]∧BP es k i∧Sat h' (cH x n 0 b (es.map dU)::X::S):=by
 have hW:=hT.w
 have J:=s
 obtain⟨bv,cv,us,s⟩:=bQ.1 s
 refine Call.of_wp (hW.free _ rfl) Tryz.func46 rfl rfl (zK 6 rfl ?_)
 have z0:=s
 refine WP.drawn [af,af,af,af,af,af,af] rfl (by kernel_rfl) (by kernel_rfl) ?_
 refine zM rfl (zN rfl (zF rfl (eW _ _) (zL rfl (s.ld (k:=0) rfl je rfl) (zO rfl (aC rfl rfl rfl (j3 bh s)) ?_))))
 rw[cq]
 refine zA rfl (zA rfl ?_)
 refine aE.nil ⟨⟨aa,aa,aa,aa,aa,aa,aa,aa⟩,?_⟩
 refine zw (WP.block ?_)
 refine NB hT hX hN hlen es.length 0 es.length _ _ _ (by omega) (eN _) (aM _) (fun i e _ h=>by omega) (fun i e h1 h2=>by have:=(List.getElem?_eq_some_iff.1 h1).1;omega) J ⟨rfl,rfl,rfl,rfl,aa⟩ fun E' h' i hL fh s' => ?_
 have s:=s'
 have adI:=hL.le
 refine WP.has fh ?_
 have J:=s
 obtain⟨bv,cv,us,s⟩:=bQ.1 s
 refine zK 6 rfl (zY s 0 eW je rfl (zo rfl (aC rfl rfl rfl (j3 bh s)) ?_))
 rw[cq]
 by_cases hi:i<es.length
 ·obtain⟨e,he⟩:∃e,es[i]?=some e:=⟨_,aG hi⟩
  obtain⟨c1,c2,c3⟩:=wq hN he
  have I:sameE es k i=decide (e.1=k):=by unfold sameE;rw[he]
  refine zB rfl aL (by simp;omega) ?_
  refine zk 3 rfl (zc rfl (nJ hW c1 c2 (by decide) c3 J) ?_)
  intro kv2 h s
  rw[pE] at s
  refine zm rfl (zc rfl (Gr hW (s.aq (k:=0) rfl (aY _ _)) (s.aq (k:=2) rfl hX)) ?_)
  rintro r h' ⟨rfl,rfl⟩
  exact zk 4 rfl (WP.ret ⟨aa,_,rfl,i,by rw[I],hL,s.drop⟩)
 ·have I:sameE es k i=false:=by unfold sameE;rw[Ee (by omega)]
  refine zC rfl aL (by simp;omega) ?_
  exact zk 10 rfl (WP.ret ⟨aa,_,rfl,i,by rw[I],hL,J⟩)
noncomputable def wyL : Code:=cE [1,1,0,0,0] ((Tryz.f76.body).getD .skip)
theorem Tq (hT:WB told)(hX:bX X (b5 kv k))(hS:Sep lo hi ks)(hlen:ks.length≤512)(yX:1≤l)(iq:l≤64): ∀(j a z:Nat) (h:H) (E:List (Nat×V)) (Q:Ex→List (Nat×V)→H→Prop),z-a≤j→a≤z→z≤ks.length→1≤a →
  (∀i m,ks[i]?=some m→1≤i→i<a→m.key≤k)→(∀i m,ks[i]?=some m→z≤i→k<m.key)→Sat h (cH x n l b (kisC ks)::X::S)→Has E [(0,.ptr x 0),(1,kv),(5,.int .i64 (a:Int)),(6,.int .i64 (z:Int))] →
  (∀E' h' i,Way ks k i→Has E' [(5,.int .i64 ((i+1:Nat):Int))]→Sat h' (cH x n l b (kisC ks)::X::S)→Q (.exit 0) E' h')→WP ⟨Tryz.prog,told⟩ 31 (.loop wyL) E h Q:=by
 have hW:=hT.w
 have fin:∀(a:Nat),1≤a→a≤ks.length→(∀i m,ks[i]?=some m→1≤i→i<a→m.key≤k)→(∀i m,ks[i]?=some m→a≤i→k<m.key)→Way ks k (a-1):=fun a q1 q2 q3 q4 =>
  ⟨by omega,fun j m hm J a2=>q3 j m hm J (by omega),fun j m hm J=>q4 j m hm (by omega)⟩
 intro j
 induction j with
 |zero =>
  intro a z h E Q hj UC hz ha h1 h2 s hE hq
  have:a=z:=by omega
  subst this
  refine WP.loop (WP.has hE (zK 5 rfl (zC rfl aL (by simp) ?_)))
  exact zk 2 rfl (WP.exit (hq _ _ (a-1) (fin a ha hz h1 h2) ⟨by rw[show a-1+1=a by omega];rfl,aa⟩ s))
 |succ j ih =>
  intro a z h E Q hj UC hz ha h1 h2 s hE hq
  by_cases Tp:a=z
  ·subst Tp
   refine WP.loop (WP.has hE (zK 5 rfl (zC rfl aL (by simp) ?_)))
   exact zk 2 rfl (WP.exit (hq _ _ (a-1) (fin a ha hz h1 h2) ⟨by rw[show a-1+1=a by omega];rfl,aa⟩ s))
  ·obtain⟨m,hm⟩:∃m,m=(a+z)/2:=⟨_,rfl⟩
   obtain⟨e,he⟩:∃e,ks[m]?=some e:=⟨_,aG (by omega)⟩
   have c1:=j_ he
   rw[ax (by omega)] at c1
   have h4:=dH 4 e.pg
   have fM:=(hS.sz m e he (by omega)).2
   have c3:(ie e.pg e.key).length≤225:=by rw[ie,aX,h4];omega
   have c2:jl l (ie e.pg e.key):=by rw[jl,ax (by omega),ie,aX,h4];omega
   have RD:fN l (ie e.pg e.key)=e.key:=by
    obtain⟨l',rfl⟩:∃l',l=l'+1:=⟨l-1,by omega⟩
    exact pF
   refine WP.loop (WP.has hE (zK 5 rfl (zB rfl aL (by simp;omega) ?_)))
   refine zk 3 rfl (WP.block (zK 4 rfl (zo rfl (az (r:=.int .i64 ((a+z:Nat):Int)) rfl rfl (by rw[show((a+z:Nat):Int)=(a:Int)+(z:Int) by omega];exact aO (ay (by omega) (by omega)))) ?_)))
   refine zo rfl (az (r:=.int .i64 (m:Int)) rfl rfl (by rw[hm];exact Bg (b:=2) (by decide) (by omega))) ?_
   refine zk 6 rfl (zc rfl (nJ hW c1 c2 iq c3 s) ?_)
   intro kv2 h s
   rw[RD] at s
   refine zm rfl (zc rfl (nK hT (s.aq (k:=0) rfl (aY _ _)) (s.aq (k:=2) rfl hX)) ?_)
   rintro r h' ⟨rfl,rfl⟩
   by_cases hle:e.key≤k
   ·skip
    refine zB rfl wT (decide_eq_true ((qK _ _).2.2 hle)) (zk 4 rfl (zb rfl (by exact aO (ay (by omega) (by omega))) ?_))
    refine za rfl (zv ?_)
    refine ih (m+1) z _ _ Q (by omega) (by omega) hz (by omega) (fun i d I J a2 => ?_) h2 s.drop ⟨rfl,rfl,rfl,rfl,aa⟩ hq
    by_cases q:i=m
    ·subst q
     rw[he] at I
     obtain rfl:=bp I
     exact hle
    ·have:=hS.jX i m d e I he J (by omega)
     grind
   ·skip
    refine zh rfl (az rfl rfl wT) (decide_eq_false (fun q=>hle ((qK _ _).2.1 q))) (zv (zj rfl (zr rfl (zk 2 rfl (zv ?_)))))
    refine ih a m _ _ Q (by omega) (by omega) (by omega) ha h1 (fun i d I J => ?_) s.drop ⟨rfl,rfl,rfl,rfl,aa⟩ hq
    by_cases q:i=m
    ·subst q
     rw[he] at I
     obtain rfl:=bp I
     exact List.not_le.1 hle
    ·have:=hS.jX m i e d he I (by omega) (by omega)
     grind
theorem Zq (hT:WB told)(hX:bX X (b5 kv k))(hS:Sep lo hi ks)(hlen:ks.length≤512)(J:1≤l)(iq:l≤64)(s:Sat h (cH x n l b (kisC ks)::X::S)):
  Call ⟨Tryz.prog,told⟩ 76 [.ptr x 0,kv] h fun v h'=>∃i:Nat,v=.int .i64 (i:Int)∧Way ks k i∧Sat h' (cH x n l b (kisC ks)::X::S):=by
 have hW:=hT.w
 have I:1≤ks.length:=by
  rcases lJ ks.length with q|q
  ·exact absurd (iz q) hS.ne
  ·exact q
 have s0:=s
 obtain⟨bv,cv,us,s⟩:=bQ.1 s
 refine Call.of_wp (hW.free _ rfl) Tryz.func76 rfl rfl (zK 5 rfl ?_)
 have z0:=s
 refine WP.drawn [af,af,af,af,af,af,af] rfl (by kernel_rfl) (by kernel_rfl) ?_
 refine zM rfl (zN rfl (zF rfl (eW _ _) (zL rfl (s.ld (k:=0) rfl je rfl) (zO rfl (aC rfl rfl rfl (j3 bh s)) ?_))))
 rw[iy]
 refine zA rfl (zA rfl ?_)
 refine aE.nil ⟨⟨aa,aa,aa,aa,aa,aa,aa,aa⟩,?_⟩
 refine zw (WP.block ?_)
 refine Tq hT hX hS hlen J iq ks.length 1 ks.length _ _ _ (by omega) I (aM _) (aM _) (fun i e _ I h2=>by omega) (fun i e I h2=>by have:=(List.getElem?_eq_some_iff.1 I).1;omega) s0 ⟨rfl,rfl,rfl,rfl,aa⟩ fun E' h' i hL fh s' => ?_
 have s:=s'
 have cV:=hL.lt
 refine WP.has fh (zK 3 rfl (zo rfl (az (r:=.int .i64 (i:Int)) rfl rfl (by rw[show(i:Int)=((i+1:Nat):Int)-1 by omega];exact ei (ay (by omega) (by omega)))) ?_))
 exact zk 2 rfl (WP.ret ⟨aa,_,rfl,i,rfl,hL,s⟩)
end
theorem qj (b:Nat)(e:TypeId)(fz:Nat×Nat): ∀(vs:List Value) (o:Nat) (w:World) (C:Array Value),w.heap[b]?=some (.cells C e fz)→o+vs.length≤C.size →
  ∃C',w.setCells b o vs=World.setRow w b C' e fz∧C'.size=C.size∧∀j,C'[j]?=if o≤j∧j<o+vs.length then vs[j-o]? else C[j]?:=by
 intro vs
 induction vs with
 |nil =>
  intro o w C I _
  have:World.setRow w b C e fz=w:=by
   unfold World.setRow
   congr 1
   grind
  exact⟨C,this.symm,rfl,fun j=>by grind⟩
 |cons v vs ih =>
  intro o w C I hl
  have J:b<w.heap.size:=(Array.getElem?_eq_some_iff.1 I).1
  simp only[aZ] at hl
  obtain⟨C',h1,h2,h3⟩:=ih (o+1) (World.setRow w b (C.setIfInBounds o v) e fz) (C.setIfInBounds o v) (by rw[jh J];simp) (by simp;omega)
  refine⟨C',?_,by rw[h2];simp,fun j => ?_⟩
  ·rw[World.setCells,Bp I,h1,setRow_setRow]
  ·rw[h3]
   by_cases hj:j=o
   ·subst hj
    rw[ax (by omega),aH (by simp),gG,D9,aH rfl,aH (by omega)]
    rfl
   ·grind
theorem z7 (w:World)(C D:Array Value)(e:TypeId)(fz Bo:Nat×Nat): World.setRow (w.alloc (.cells C e fz)) w.heap.size D e Bo=w.alloc (.cells D e Bo):=by
 unfold World.setRow World.alloc
 congr 1
 apply Array.ext'
 simp
set_option maxHeartbeats 1000000 in
theorem WC {c:Ctx}{w:World}{y:Nat}{cs:List V}(I:Rel c h w)(hg:h.tr.get x=some (.cells n cs false))(hy:h.tr.get y=some (.cells 1 [u] false))(hxy:y≠x)(hi:i<n)(hn:n≤4096)
 (HA:wf c (.sl x 0 n (.rest 1 0))): jm Tryz.prog 52 [.sl x 0 n (.rest 1 0),.int .i64 i,.sl y 0 1 (.exact 1)] c w (.sl h.next 0 (n+1) (.rest 1 0)) ((h.put x none).new (.cells (n+1) (cN i u cs) false)):=by
 obtain⟨hl,CC,C,e,fz,hb,hle,hC,tf⟩:=I.obj x _ hg
 obtain⟨_,hwu,D,e2,fz2,nX,adJ,hD,Tr⟩:=I.obj y _ hy
 have tf:fz=(0,0):=tf
 have Tr:fz2=(0,0):=Tr
 subst tf Tr
 have hX:=I.EA hg (by simp)
 have xS:(c.ρ y).1≠(c.ρ x).1:=fun he=>hxy (I.BS hy hg he hX)
 have hxN:x<c.N:=I.live x _ hg
 have Xq:rowSize w (c.ρ x).1=C.size:=by unfold rowSize;rw[hb]
 have Xr:c.room x 0 1=C.size-(c.ρ x).2:=by
  simp only[Ctx.room,I.zz x hxN,Xq,dA,AD]
 have yl:c.room x 0 1≠0:=by omega
 have FJ:n≤c.room x 0 1:=by
  simp only[wf] at HA
  exact HA.2.2
 have ea:(#[.slice (some ⟨(c.ρ x).1,(c.ρ x).2,none⟩) n (c.room x 0 1),.int .i64 i,.slice (some ⟨(c.ρ y).1,(c.ρ y).2,none⟩) 1 1]:Array Value)=([V.sl x 0 n (.rest 1 0),.int .i64 i,.sl y 0 1 (.exact 1)].map (conc c)).toArray:=by
  simp[conc]
 have ff:(cs.map (conc c)).length=n:=by simp[hl]
 have uK:∀j v,(cs.map (conc c))[j]?=some v→w.cell? ⟨(c.ρ x).1,(c.ρ x).2+j,none⟩=some v:=fun j v J=>by
  rw[jv] at J
  obtain⟨a,h1,rfl⟩:=Option.map_eq_some_iff.1 J
  simp[World.cell?,hb,hC j a h1]
 have hvi:∀j v,([conc c u])[j]?=some v→w.cell? ⟨(c.ρ y).1,(c.ρ y).2+j,none⟩=some v:=fun j v J=>by
  cases j with
  |succ j=>simp at J
  |zero =>
   simp only[iW,aD] at J
   subst J
   have:=hD 0 u rfl
   simp only[dA] at this ⊢
   simp[World.cell?,nX,this]
 have LO:∀v∈cs.map (conc c),v.oneCell'=true:=fun v hv=>by
  obtain⟨a,h1,rfl⟩:=List.mem_map.1 hv
  exact qN (CC a h1).2
 have LP:∀v∈[conc c u],v.oneCell'=true:=fun v hv=>by
  simp only[Ek] at hv
  subst hv
  exact qN (hwu u (by simp)).2
 have Zr:∀v∈cN i u cs,wf c v∧storable v=true:=fun v hv=>by
  simp only[cN,nD,gm] at hv
  rcases hv with h1|rfl|h1
  ·exact CC v (iA h1)
  ·exact hwu v (by simp)
  ·exact CC v (gF h1)
 have xJ:n+1=(cN i u cs).length:=by rw[j9 (by omega)];omega
 have T_:∀a:Addr,a.block=(c.ρ x).1∨a.block=(c.ρ y).1→w.frozen? a=false:=fun a ha=>by
  unfold World.frozen?
  rcases ha with ha|ha<;>rw[ha]<;>simp[hb,nX]
 have Qm:(c.ρ x).1<w.heap.size:=(Array.getElem?_eq_some_iff.1 hb).1
 unfold jm
 rw[←ea]
 by_cases pK:n+1≤c.room x 0 1
 ·refine Calls.mono (Qk (c.ρ x).1 (c.ρ x).2 n (c.room x 0 1) i (c.ρ y).1 (c.ρ y).2 1 1 (cs.map (conc c)) [conc c u] w hi (by omega) pK (by omega) xS ff rfl uK
   (fun j J=>by simp[World.cell?,hb];omega) (fun j _=>T_ _ (.inl rfl)) hvi LO LP e2 e D.size C.size (by simp[World.shape?,nX]) (by simp[World.shape?,hb]) (by omega) (T_ _ (.inr rfl)) (T_ _ (.inr rfl))) ?_
  rintro r w' ⟨rfl,rfl⟩
  obtain⟨C1,a1,a2,a3⟩:=qj (c.ρ x).1 e (0,0) ((cs.map (conc c)).drop i) ((c.ρ x).2+(i+1)) w.drew C hb (by simp;omega)
  obtain⟨C2,b1,b2,b3⟩:=qj (c.ρ x).1 e (0,0) [conc c u] ((c.ρ x).2+i) (World.setRow w.drew (c.ρ x).1 C1 e (0,0)) C1 (by rw[jh (by exact Qm)];simp) (by simp;omega)
  rw[a1,b1,setRow_setRow]
  have ha:=I.drew.Xl (off:=0) (m:=n+1) (cs':=cN i u cs) (C':=C2) (e:=e) hg hb (by omega) xJ (by omega) Zr (by omega) (fun j v J=>by
   rw[k_ (by omega)] at J
   rw[dA,b3,a3]
   by_cases h1:j<i
   ·rw[aH h1] at J
    rw[ax (by simp;omega),ax (by omega)]
    exact hC j v J
   ·rw[ax h1] at J
    by_cases h2:j=i
    ·rw[aH h2] at J
     cases J
     subst h2
     rw[aH (by simp),gG]
     rfl
    ·rw[ax h2] at J
     have Py:j-1<cs.length:=(List.getElem?_eq_some_iff.1 J).1
     rw[ax (by simp;omega),aH (by simp;omega),eA,jv,show i+((c.ρ x).2+j-((c.ρ x).2+(i+1)))=j-1 by omega,J]
     rfl)
  have Zs:(c.at x 0).room h.next 0 1=c.room x 0 1:=by simp[Ctx.room,Ctx.at,I.next]
  refine⟨_,?_,?_,ha.1,(cI.drew c w).trans ha.2⟩
  ·simp only[conc,Zs,yl,fF]
   simp[Ctx.at,I.next]
  ·simp only[wf,Zs]
   exact⟨by simp[Ctx.at,I.next],by omega,pK⟩
 ·refine Calls.mono (Tg (c.ρ x).1 (c.ρ x).2 n (c.room x 0 1) i (c.ρ y).1 (c.ρ y).2 1 1 (cs.map (conc c)) [conc c u] w hi (by omega) FJ (by omega) (by omega) ff rfl uK hvi LO LP) ?_
  rintro r w' ⟨G,UZ,hG,rfl,hRS,rfl,hR⟩
  obtain⟨C1,a1,a2,a3⟩:=qj w.heap.size 29 (0,0) [conc c u] i (w.drew.alloc (.cells UZ 29)) UZ ((gA w.drew _ w.heap.size).trans (if_pos rfl)) (by simp;omega)
  have e1:World.setRow (w.drew.alloc (.cells UZ 29)) w.heap.size C1 29 (0,0)=w.drew.alloc (.cells C1 29):=z7 w.drew UZ C1 _ _ _
  have e2:(w.drew.alloc (.cells C1 29)).drew=w.drew.drew.alloc (.cells C1 29):=rfl
  rw[a1,e1,e2]
  obtain⟨C2,b1,b2,b3⟩:=qj w.heap.size 29 (0,0) ((cs.map (conc c)).drop i) (i+1) (w.drew.drew.alloc (.cells C1 29)) C1 ((gA w.drew.drew _ w.heap.size).trans (if_pos rfl)) (by simp;omega)
  have e3:World.setRow (w.drew.drew.alloc (.cells C1 29)) w.heap.size C2 29 (0,0)=w.drew.drew.alloc (.cells C2 29):=z7 w.drew.drew C1 C2 _ _ _
  rw[b1,e3]
  have pR:((cN i u cs).map (conc c)++C2.toList.drop (n+1)).toArray=C2:=by
   apply Array.ext'
   rw[List.toList_toArray]
   apply nC
   intro j
   have IA:((cN i u cs).map (conc c)).length=n+1:=by rw[cq,←xJ]
   by_cases J:j<n+1
   ·rw[qw (by omega),jv,k_ (by omega),show C2.toList[j]?=C2[j]? from lH,b3,a3]
    by_cases h1:j<i
    ·rw[aH h1,ax (by omega),ax (by omega),hR j (conc c cs[j]) (by rw[jv,aG (by omega)];rfl) h1,aG (by omega)]
     rfl
    ·rw[ax h1]
     by_cases h2:j=i
     ·subst h2
      rw[aH rfl,ax (by omega),aH (by simp),gG]
      rfl
     ·rw[ax h2,aH (by simp;omega),eA,jv,show i+(j-(i+1))=j-1 by omega]
   ·rw[g8 (by omega),eA,IA,show n+1+(j-(n+1))=j by omega]
  obtain⟨g1,g2⟩:=(I.drew.drew.kill x).newRow Zr 29 (C2.toList.drop (n+1))
  have fM:(cN i u cs).length+(C2.toList.drop (n+1)).length=G:=by simp[←xJ];omega
  rw[pR,fM,←xJ] at g1
  rw[pR,fM] at g2
  have Qz:(c.grow w.drew.drew.heap.size 0 G).room h.next 0 1=G:=by
   simp only[Ctx.room,I.next,Ctx.grow,World.size_drew,cT,fR,dA,AD]
  have hG0:G≠0:=by omega
  refine⟨_,?_,?_,g1,(cI.drew c w).trans ((cI.drew c w.drew).trans g2)⟩
  ·simp only[conc,Qz,ax hG0]
   simp[I.next,Ctx.grow]
  ·simp only[wf,Qz]
   exact⟨by rw[I.next,kN];omega,by omega,hG⟩
def DR : LV:=fun args h r=>(∃x y n i cs u,args=[.sl x 0 n (.rest 1 0),.int .i64 (i:Nat),.sl y 0 1 (.exact 1)]∧h.tr.get x=some (.cells n cs false)∧h.tr.get y=some (.cells 1 [u] false)∧i<n ∧
  r=(.sl h.next 0 (n+1) (.rest 1 0),(h.put x none).new (.cells (n+1) (cN i u cs) false))) ∨
 gQ CB 52 args h r.1 r.2∧((∃x n t y,args=[.sl x 0 n t,.int .i64 (n:Nat),y])∨∃y,args=[.aV,.int .i64 0,y])
theorem aa2 {k:IntKind}{a b:Int}: builtinV P h .max ts [.int k a,.int k b]=some (.int k (max a b),h):=by
 simp only[builtinV,foldV,maxV,dO,ag,fQ]
 congr 2
 rw[Int.max_def]
 by_cases h:b>a
 ·rw[dy h,ag,aH (by omega)]
 ·rw[eM h,aS]
  split
  ·have:a=b:=by omega
   rw[this]
  ·rfl
theorem NC {n l:Int}(J:View h bv b)(hc:nQ (T.get h.tr) 1 cv us): buildV Tryz.prog 101 [(0,.int .i64 n),(1,.int .i64 l),(2,bv),(3,cv)]=some (.agg [.int .i64 n,.int .i64 l,bv,cv]):=by
 rcases J.2 with⟨rfl|⟨a,rfl⟩,_⟩|⟨id,off,cap,N,cs,st,rfl,_⟩<;>rcases hc.2 with⟨rfl,_⟩|⟨F7,n2,I,N2,rest,rfl,_⟩<;>(rw[Ut];rfl)
theorem cm.reads (h:cm b k link extra cs): b.length=512∧b7 b=true∧b.getD 12 0=k∧c9 b 22 4=extra:=⟨h.len,h.good,h.kind,h.extra⟩
theorem kK : dY cs=tot cs+4*cs.length:=rfl
theorem QA (I:∀c∈cs,c.length≤225)(J:cs.length≤512): dY cs≤512*229:=by
 have:=Gn (cs:=cs) (M:=229) fun c h=>by have:=I c h;omega
 have:=mG 229 J
 omega
section
variable {told:cy} {p least:Nat} {v:V}
theorem Bi (hX:tX X 1 cv us)(J:cs[i]?=some c)(hu:P.underlying t=some (.slice e))(he:bg P e=some 1)(ha:isAggT P e=some false)(s:Sat h (X::dD us cs::S)):
  ∃u id off,indexAddrV P t cv (.int .i64 (i:Int))=some (.ptr id off)∧loadV P h e (.ptr id off)=some u∧us[i]?=some u∧Sat h (X::dD us cs::l9 u c::S):=by
 obtain⟨u,I,s1⟩:=Qi (s.ae [1]) J
 have hl:=pG (s.ae [1])
 have hi:=(List.getElem?_eq_some_iff.1 J).1
 obtain⟨id,off,e1,e2⟩:=Y_ (P:=P) (t:=t) (e:=e) (i:=i) (s.nr (j:=0) rfl hX) (by omega) (by decide) hu he
 refine⟨u,id,off,e1,?_,I,?_⟩
 ·have:=e2 0 u e (by rw[cz,gh,aH (by decide),eA,dA];exact I) ha
  rwa [dA] at this
 ·have s1:=s1.ae [2,1,0]
  exact s1
theorem wu (I:tX X 1 cv us)(hu:P.underlying t=some (.slice e))(s:Sat h (X::dD us cs::S)): lenV P h t cv=some (.int .i64 (cs.length:Int)) :=
 zX (s.nr (j:=0) rfl I) (by rw[pG (s.ae [1]),cz]) (by decide) hu
theorem rL (J:W told)(s:Sat h (X::S))(I:bX X (b5 v b))(hl:b.length<1073741824):
  Call ⟨Tryz.prog,told⟩ 49 [v] h fun r h'=>Sat h' (aQ r b::X::S):=by
 have hv:=s.aq (k:=0) rfl I
 refine Call.of_wp (J.free _ rfl) Tryz.func49 rfl rfl (zK 7 rfl (zo rfl (aC rfl rfl rfl (au ak (s.aq (k:=0) rfl I))) (aA.any rfl rfl rfl (OpR.rC rfl s rfl rfl rfl rfl (by omega)) ?_)))
 intro u h s
 refine zm rfl (aA.any rfl rfl rfl (OpR.lX rfl s I rfl rfl rfl rfl (by simp;omega)) ?_)
 intro u2 h s
 rw[cO] at s
 exact zk 2 rfl (WP.ret ⟨aa,_,rfl,s⟩)
theorem Jk (hT:W told)(s:Sat h (X::S))(I:bX X (b5 v b)): Call ⟨Tryz.prog,told⟩ 44 [v] h fun r h'=>r=.bool (decide (1≤b.length∧b.length≤96))∧h'=h:=by
 have hv:=s.aq (k:=0) rfl I
 refine Call.of_wp (hT.free _ rfl) Tryz.func44 rfl rfl (zK 7 rfl (zo rfl (aC rfl rfl rfl (au ak (s.aq (k:=0) rfl I))) ?_))
 by_cases J:1≤b.length
 ·skip
  refine zB rfl kC (by simp;omega) ?_
  refine zk 2 rfl (zo rfl (aC rfl rfl rfl (au ak (s.aq (k:=0) rfl I))) ?_)
  by_cases h2:b.length≤96
  ·skip
   refine zB rfl wT (by simp;omega) ?_
   exact zk 3 rfl (WP.ret ⟨aa,_,rfl,by rw[dy ⟨J,h2⟩],rfl⟩)
  ·skip
   refine zC rfl wT (by simp;omega) ?_
   exact zk 3 rfl (WP.ret ⟨aa,_,rfl,by rw[eM (fun q=>h2 q.2)],rfl⟩)
 ·skip
  refine zC rfl kC (by simp;omega) ?_
  exact zk 7 rfl (WP.ret ⟨aa,_,rfl,by rw[eM (fun q=>J q.1)],rfl⟩)
noncomputable def szL : Code:=cE [1,1,0,1,0,0] ((Tryz.f84.body).getD .skip)
theorem ND (hT:W told)(hX:tX X 1 cv us)(hc:∀c∈cs,c.length≤225)(hl:cs.length≤512): ∀(j i:Nat) (h:H) (E:List (Nat×V)) (Q:Ex→List (Nat×V)→H→Prop),i+j=cs.length →
  Sat h (X::dD us cs::S)→Has E [(3,.int .i64 (dY (cs.take i):Int)),(6,cv),(7,.int .i64 (cs.length:Int)),(8,.int .i64 (i:Int))] →
  (∀E' h',Has E' [(3,.int .i64 (dY cs:Int))]→Sat h' (X::dD us cs::S)→Q (.exit 0) E' h')→WP ⟨Tryz.prog,told⟩ 19 (.loop szL) E h Q:=by
 have hz:=QA hc hl
 intro j
 induction j with
 |zero =>
  intro i h E Q hi s J hq
  have hi:i=cs.length:=hi
  subst hi
  rw[ja] at J
  refine WP.loop (WP.has J (zg rfl (zC rfl aL (by simp) ?_)))
  exact zk 3 rfl (WP.exit (hq _ _ ⟨rfl,aa⟩ s))
 |succ j ih =>
  intro i h E Q hi s J hq
  obtain⟨c,I⟩:∃c,cs[i]?=some c:=⟨_,aG (by omega)⟩
  obtain⟨u,id,off,e1,e2,_,s⟩:=Bi (P:=Tryz.prog) hX I bh eZ ah s
  have ff:=hc c (aR I)
  have h1:=tW I
  have h2:=rI (cs:=cs) (k:=i+1)
  refine WP.loop (WP.has J (zg rfl (zB rfl aL (by simp;omega) ?_)))
  refine zk 5 rfl (WP.block (zg rfl (zo rfl (bx (r:=.ptr id off) rfl rfl e1) (zl rfl e2 (zk 5 rfl (zo rfl (aC rfl rfl rfl (au ak (s.aq (k:=2) rfl (aY _ _)))) (zo rfl (az (r:=.int .i64 ((c.length+4:Nat):Int)) rfl rfl (by rw[show((c.length+4:Nat):Int)=(c.length:Int)+4 by omega];exact aO (ay (by omega) (by omega)))) ?_)))))))
  refine zo rfl (az (r:=.int .i64 (dY (cs.take (i+1)):Int)) rfl rfl (by rw[show((dY (cs.take (i+1)):Nat):Int)=(dY (cs.take i):Int)+((c.length+4:Nat):Int) by omega];exact aO (ay (by omega) (by omega)))) ?_
  refine za rfl (zv (zr rfl (zb rfl (by exact aO (ay (by omega) (by omega))) ?_)))
  refine zm rfl (zv ?_)
  exact ih (i+1) _ _ Q (by omega) (s.del 2) ⟨rfl,rfl,rfl,rfl,aa⟩ hq
theorem Ts (J:W told)(hX:tX X 1 cv us)(hc:∀c∈cs,c.length≤225)(hl:cs.length≤512)(s:Sat h (X::dD us cs::S)):
  Call ⟨Tryz.prog,told⟩ 84 [cv] h fun v h'=>v=.int .i64 (dY cs:Int)∧Sat h' (X::dD us cs::S):=by
 refine Call.of_wp (J.free _ rfl) Tryz.func84 rfl rfl (zK 12 rfl (zo rfl (aC rfl rfl rfl (wu hX bh s)) (zk 2 rfl (WP.block (ND J hX hc hl cs.length 0 _ _ _ (by omega) s ⟨rfl,rfl,rfl,rfl,aa⟩ fun E' h' I s' => ?_)))))
 have s:=s'
 exact WP.has I (zK 5 rfl (WP.ret ⟨aa,_,rfl,rfl,s⟩))
noncomputable def hvL : Code:=cE [1,1,0,1,0,0] ((Tryz.f131.body).getD .skip)
theorem Ku (hT:W told)(hX:tX X 1 cv us)(hc:∀c∈cs,c.length≤225)(hl:cs.length≤512)(hle:least≤4)(h1:1≤cs.length): ∀(j k I DS:Nat) (h:H) (E:List (Nat×V)) (Q:Ex→List (Nat×V)→H→Prop),k+j=cs.length→1≤k→(I=0→∀i,i<k→¬mX cs least i)→(I≠0→mX cs least I) →
  Sat h (X::dD us cs::S)→Has E [(0,cv),(1,.int .i64 (least:Int)),(5,.int .i64 (dY cs:Int)),(6,.int .i64 (dY (cs.take (k-1)):Int)),(7,.int .i64 (I:Int)),(8,.int .i64 (DS:Int)),(9,.int .i64 (k:Int))] →
  (∀E' h' I,(I=0→∀i,¬mX cs least i)→(I≠0→mX cs least I)→Has E' [(7,.int .i64 (I:Int))]→Sat h' (X::dD us cs::S)→Q (.exit 0) E' h')→WP ⟨Tryz.prog,told⟩ 64 (.loop hvL) E h Q:=by
 have hz:=QA hc hl
 intro j
 induction j with
 |zero =>
  intro k I DS h E Q hk lR oX m6 s hE hq
  have hk:k=cs.length:=hk
  subst hk
  refine WP.loop (WP.has hE (zK 5 rfl (zo rfl (aC rfl rfl rfl (wu hX bh s)) (zC rfl aL (by simp) ?_))))
  refine zk 2 rfl (WP.exit ?_)
  exact hq _ _ I (fun e i hi=>by
   by_cases q:i<cs.length
   ·exact oX e i q hi
   ·exact q hi.k2) m6 ⟨rfl,aa⟩ s
 |succ j ih =>
  intro k I DS h E Q hk lR oX m6 s hE hq
  obtain⟨c,uK⟩:∃c,cs[k-1]?=some c:=⟨_,aG (by omega)⟩
  obtain⟨u,id,off,e1,e2,_,s⟩:=Bi (P:=Tryz.prog) hX uK bh eZ ah s
  have ff:=hc c (aR uK)
  have h2:=tW uK
  have h3:=rI (cs:=cs) (k:=k)
  rw[show k-1+1=k by omega] at h2
  have next:∀(J Tt:Nat) {h:H} {E:List (Nat×V)},(J=0→¬mX cs least k∧I=0)→(J≠0→J=I∨J=k∧mX cs least k)→Sat h (X::dD us cs::l9 u c::S) →
    Has E [(0,cv),(1,.int .i64 (least:Int)),(5,.int .i64 (dY cs:Int)),(6,.int .i64 (dY (cs.take k):Int)),(7,.int .i64 (J:Int)),(8,.int .i64 (Tt:Int)),(9,.int .i64 ((k+1:Nat):Int))]→WP ⟨Tryz.prog,told⟩ 64 (.loop hvL) E h Q:=by
   intro J Tt h E q1 q2 s hE
   refine ih (k+1) J Tt _ _ Q (by omega) (by omega) (fun e i hi => ?_) (fun e => ?_) (s.del 2) hE hq
   ·obtain⟨q3,q4⟩:=q1 e
    by_cases q:i=k
    ·subst q;exact q3
    ·exact oX q4 i (by omega)
   ·rcases q2 e with q3|⟨q3,q4⟩
    ·rw[q3];exact m6 (by omega)
    ·rw[q3];exact q4
  refine WP.loop (WP.has hE (zK 5 rfl (zo rfl (aC rfl rfl rfl (wu hX bh s)) (zB rfl aL (by simp;omega) ?_))))
  refine zk 4 rfl (WP.block (zK 5 rfl (zo rfl (az (r:=.int .i64 ((k-1:Nat):Int)) rfl rfl (by rw[show((k-1:Nat):Int)=(k:Int)-1 by omega];exact ei (ay (by omega) (by omega)))) ?_)))
  refine zo rfl (bx (r:=.ptr id off) rfl rfl e1) (zl rfl e2 (zo rfl (aC rfl rfl rfl (au ak (s.aq (k:=2) rfl (aY _ _)))) (zo rfl (az (r:=.int .i64 ((c.length+4:Nat):Int)) rfl rfl (by rw[show((c.length+4:Nat):Int)=(c.length:Int)+4 by omega];exact aO (ay (by omega) (by omega)))) ?_)))
  refine zo rfl (az (r:=.int .i64 (dY (cs.take k):Int)) rfl rfl (by rw[show((dY (cs.take k):Nat):Int)=(dY (cs.take (k-1)):Int)+((c.length+4:Nat):Int) by omega];exact aO (ay (by omega) (by omega)))) ?_
  refine zk 7 rfl ?_
  by_cases c1:k<least
  ·skip
   refine zB rfl aL (by simp;omega) ?_
   refine zk 20 rfl (WP.exit (zK 2 rfl (zb rfl (by exact aO (ay (by omega) (by omega))) ?_)))
   refine za rfl (zv ?_)
   exact next I DS (fun e=>⟨fun q=>by have:=q.l1;omega,e⟩) (fun _=>.inl rfl) s ⟨rfl,rfl,rfl,rfl,rfl,rfl,rfl,aa⟩
  ·skip
   refine zC rfl aL (by simp;omega) ?_
   refine zk 2 rfl (zo rfl (aC rfl rfl rfl (wu hX bh s)) (zm rfl (zo rfl (az (r:=.int .i64 ((cs.length-k:Nat):Int)) rfl rfl (by rw[show((cs.length-k:Nat):Int)=(cs.length:Int)-(k:Int) by omega];exact ei (ay (by omega) (by omega)))) ?_)))
   refine zm rfl ?_
   by_cases c2:cs.length-k<least
   ·skip
    refine zB rfl aL (by simp;omega) ?_
    refine zk 13 rfl (WP.exit (zK 2 rfl (zb rfl (by exact aO (ay (by omega) (by omega))) ?_)))
    refine za rfl (zv ?_)
    exact next I DS (fun e=>⟨fun q=>by have:=q.l2;omega,e⟩) (fun _=>.inl rfl) s ⟨rfl,rfl,rfl,rfl,rfl,rfl,rfl,aa⟩
   ·skip
    refine zC rfl aL (by simp;omega) ?_
    refine zk 3 rfl ?_
    by_cases c3:486<dY (cs.take k)
    ·skip
     refine zB rfl cL (by simp;omega) ?_
     refine zk 9 rfl (WP.exit (zK 2 rfl (zb rfl (by exact aO (ay (by omega) (by omega))) ?_)))
     refine za rfl (zv ?_)
     exact next I DS (fun e=>⟨fun q=>by have:=q.s1;omega,e⟩) (fun _=>.inl rfl) s ⟨rfl,rfl,rfl,rfl,rfl,rfl,rfl,aa⟩
    ·skip
     refine zC rfl cL (by simp;omega) ?_
     refine zk 4 rfl (zo rfl (az (r:=.int .i64 (dY (cs.drop k):Int)) rfl rfl (by rw[show((dY (cs.drop k):Nat):Int)=(dY cs:Int)-(dY (cs.take k):Int) by omega];exact ei (ay (by omega) (by omega)))) ?_)
     by_cases c4:486<dY (cs.drop k)
     ·skip
      refine zB rfl cL (by simp;omega) ?_
      refine zk 3 rfl (WP.exit (zK 2 rfl (zb rfl (by exact aO (ay (by omega) (by omega))) ?_)))
      refine za rfl (zv ?_)
      exact next I DS (fun e=>⟨fun q=>by have:=q.s2;omega,e⟩) (fun _=>.inl rfl) s ⟨rfl,rfl,rfl,rfl,rfl,rfl,rfl,aa⟩
     ·skip
      refine zC rfl cL (by simp;omega) ?_
      refine zk 9 rfl (zo rfl (az (r:=.int .i64 (dY (cs.drop k):Int)) rfl rfl (by rw[show((dY (cs.drop k):Nat):Int)=(dY cs:Int)-(dY (cs.take k):Int) by omega];exact ei (ay (by omega) (by omega)))) ?_)
      obtain⟨d,hd⟩:∃d:Nat,max ((dY (cs.take k):Nat):Int) ((dY (cs.drop k):Nat):Int)=(d:Int):=⟨max (dY (cs.take k)) (dY (cs.drop k)),by omega⟩
      refine zo rfl (MV (r:=.int .i64 (d:Int)) rfl rfl (aa2.trans (by rw[hd]))) ?_
      have tV:mX cs least k:=⟨lR,by omega,by omega,by omega,by omega,by omega⟩
      refine zk 5 rfl ?_
      by_cases c5:I=0
      ·skip
       refine zB rfl ej (by simp;omega) ?_
       refine zk 5 rfl (zv (zi rfl (zr rfl (zk 4 rfl (zv (zr rfl (zm rfl (zb rfl (by exact aO (ay (by omega) (by omega))) ?_))))))))
       refine za rfl (zv ?_)
       exact next k d (fun e=>by omega) (fun _=>.inr ⟨rfl,tV⟩) s ⟨rfl,rfl,rfl,rfl,rfl,rfl,rfl,aa⟩
      ·skip
       refine zC rfl ej (by simp;omega) ?_
       refine zk 3 rfl ?_
       by_cases c6:d<DS
       ·skip
        refine zB rfl aL (by simp;omega) ?_
        refine zp rfl (zv (zi rfl (zr rfl (zk 4 rfl (zv (zr rfl (zm rfl (zb rfl (by exact aO (ay (by omega) (by omega))) ?_))))))))
        refine za rfl (zv ?_)
        exact next k d (fun e=>by omega) (fun _=>.inr ⟨rfl,tV⟩) s ⟨rfl,rfl,rfl,rfl,rfl,rfl,rfl,aa⟩
       ·skip
        refine zC rfl aL (by simp;omega) ?_
        refine zp rfl (zv (zj rfl (WP.skip (zr rfl (zm rfl (zb rfl (by exact aO (ay (by omega) (by omega))) ?_))))))
        refine za rfl (zv ?_)
        exact next I DS (fun e=>absurd e c5) (fun _=>.inl rfl) s ⟨rfl,rfl,rfl,rfl,rfl,rfl,rfl,aa⟩
theorem QB (J:W told)(hX:tX X 1 cv us)(hc:∀c∈cs,c.length≤225)(hl:cs.length≤512)(hle:least≤4)(h1:1≤cs.length)(s:Sat h (X::dD us cs::S)):
  Call ⟨Tryz.prog,told⟩ 131 [cv,.int .i64 (least:Int)] h fun v h'=>∃I:Nat,v=.int .i64 (I:Int)∧(I=0→∀i,¬mX cs least i)∧(I≠0→mX cs least I)∧Sat h' (X::dD us cs::S):=by
 refine Call.of_wp (J.free _ rfl) Tryz.func131 rfl rfl (zK 7 rfl (zc rfl (Ts J hX hc hl s) ?_))
 rintro v h ⟨rfl,s⟩
 refine zk 10 rfl (WP.block (Ku J hX hc hl hle h1 (cs.length-1) 1 0 0 _ _ _ (by omega) (aM _) (fun _ i hi q=>by have:=q.k1;omega) (fun e=>absurd rfl e) s ⟨rfl,rfl,rfl,rfl,rfl,rfl,rfl,aa⟩ fun E' h' I q1 q2 fh s' => ?_))
 have s:=s'
 exact WP.has fh (zK 5 rfl (WP.ret ⟨aa,_,rfl,I,rfl,q1,q2,s⟩))
noncomputable def tmL : Code:=cE [1,1,1,0,1,0,0] ((Tryz.f165.body).getD .skip)
theorem NF (hT:W told)(hX:tX X 1 cv us)(hf:dY cs≤486): ∀(j i:Nat) (v:V) (b:List Nat) (h:H) (E:List (Nat×V)) (Q:Ex→List (Nat×V)→H→Prop),i+j=cs.length→dX b 204 0 l (cs.take i) →
  Sat h (X::dD us cs::aQ v b::S)→Has E [(5,v),(19,cv),(20,.int .i64 (cs.length:Int)),(21,.int .i64 (i:Int))] →
  (∀E' h' v' b',dX b' 204 0 l cs→Has E' [(5,v')]→Sat h' (X::dD us cs::aQ v' b'::S)→Q (.exit 0) E' h')→WP ⟨Tryz.prog,told⟩ 35 (.loop tmL) E h Q:=by
 have hlen:cs.length≤512:=by rw[kK] at hf;omega
 intro j
 induction j with
 |zero =>
  intro i v b h E Q hi hp s hE hq
  have hi:i=cs.length:=hi
  subst hi
  rw[ja] at hp
  refine WP.loop (WP.has hE (zg rfl (zC rfl aL (by simp) ?_)))
  exact zk 3 rfl (WP.exit (hq _ _ v b hp ⟨rfl,aa⟩ s))
 |succ j ih =>
  intro i v b h E Q hi hp s hE hq
  obtain⟨c,uK⟩:∃c,cs[i]?=some c:=⟨_,aG (by omega)⟩
  obtain⟨u,id,off,e1,e2,_,s⟩:=Bi (P:=Tryz.prog) hX uK bh eZ ah s
  have h1:=tW uK
  have h2:=rI (cs:=cs) (k:=i+1)
  have Zt:(cs.take i).length=i:=by rw[cj];omega
  have I:(cs.take (i+1)).length=i+1:=by rw[cj];omega
  have qi:cs.take (i+1)=cs.take i++[c]:=by rw[mI,uK];rfl
  have J:=LG (told:=told) hT (s.ae [3,2]) (aK _ _) (aY _ _) hp (by rw[Zt];rw[kK,kK] at h1;rw[Zt,I] at h1;rw[kK,I] at h2;omega)
  rw[Zt] at J
  refine WP.loop (WP.has hE (zg rfl (zB rfl aL (by simp;omega) ?_)))
  refine zk 5 rfl (WP.block (zK 3 rfl (zo rfl (bx (r:=.ptr id off) rfl rfl e1) (zl rfl e2 (zk 7 rfl (zc rfl (J) ?_))))))
  rintro r h ⟨u',b',rfl,q_,s⟩
  rw[←qi] at q_
  refine zk 4 rfl (zv (zr rfl (zb rfl (by exact aO (ay (by omega) (by omega))) ?_)))
  refine zm rfl (zv ?_)
  exact ih (i+1) u' b' _ _ Q (by omega) q_ ((s.ae [3,3,0]).del 4 |>.del 3) ⟨rfl,rfl,rfl,rfl,aa⟩ hq
theorem Tu (I:W told)(hX:tX X 1 cv us)(hf:dY cs≤486)(hl:l≤64)(s:Sat h (X::dD us cs::S)):
  Call ⟨Tryz.prog,told⟩ 165 [.int .i64 (l:Int),cv] h fun v h'=>∃b',dX b' 204 0 l cs∧Sat h' (aQ v b'::X::dD us cs::S):=by
 refine Call.of_wp (I.free _ rfl) Tryz.func165 rfl rfl (zK 6 rfl (zc rfl (IU (kd:=204) I s (by decide)) ?_))
 rintro v h ⟨u1,b1,rfl,J,s⟩
 refine zk 10 rfl (zc rfl (LF (lk:=0) (ex:=l) I s (aK _ _) J (by decide) (by omega)) ?_)
 rintro v h ⟨u2,b2,rfl,nX,s⟩
 have s:=s.ae [2,2,0]
 refine zk 9 rfl (zo rfl (aC rfl rfl rfl (wu hX bh s)) (zk 2 rfl (WP.block (NF I hX hf cs.length 0 u2 b2 _ _ _ (by omega) nX s ⟨rfl,rfl,rfl,rfl,aa⟩ fun E' h' v' b' rJ fh s' => ?_))))
 have s:=s'
 exact WP.has fh (zK 5 rfl (WP.ret ⟨aa,_,rfl,b',rJ,(s.ae [2,0,0]).del 3⟩))
theorem Jl (hT:W told)(hB:B≤2000)(I:EI N B ε)(hw:NW N now)(hi:i<N)(s:Sat h (GA g a p q r data bA now ε::X::S))(hX:bX X (b5 v b))(hg:b7 b=true):
  Call ⟨Tryz.prog,told⟩ 55 [.ptr g 0,.int .i64 (i:Int),v] h fun v h'=>∃aj,v=.int .i64 0∧EI N B aj∧Sm N ε aj∧NW N (cY (i:Int) b now)∧Sat h' (GA g a p q r data bA (cY (i:Int) b now) aj::X::S):=by
 have zR:=I.cR
 have Zm:=qJ (ε:=ε)
 have hlen:=iR hg
 have hb:=(s.aq (k:=1) rfl hX).1
 have s:=cG.1 s
 refine(Gf hT (n:=(i:Int)) s hX (by omega) I.ok (by omega) (fun e he=>iR (hw.good e he).1)).mono ?_
 rintro v h ⟨e,bH,aj,J,rfl,s⟩
 obtain⟨k1,k2,k3,k4,k5⟩:=J.ec I.ec I.ok.pins
 obtain⟨rfl,rfl⟩:=k5 (by omega) (by omega) hg
 exact⟨aj,rfl,I.II J,⟨k2,fun P hP hv=>hP.II J I.ec hv,J.cR⟩,hw.put (by omega) (by omega) hg hb,cG.2 s⟩
theorem rM (J:W told)(hB:B≤2000)(dL:EI N B ε)(hw:NW N now)(hn:n<N)(hX:tX X 1 cv us)(hf:dY cs≤486)(hl:l≤64)(s:Sat h (GA g a p q r data bA now ε::X::dD us cs::S)):
  Call ⟨Tryz.prog,told⟩ 92 [.ptr g 0,.int .i64 (n:Int),.int .i64 (l:Int),cv] h fun v h'=>∃aj b',v=.int .i64 0∧EI N B aj∧Sm N ε aj∧NW N (cY (n:Int) b' now)∧dX b' 204 0 l cs∧Sat h' (GA g a p q r data bA (cY (n:Int) b' now) aj::X::dD us cs::S):=by
 have s:=s.ae [1,1]
 refine Call.of_wp (J.free _ rfl) Tryz.func92 rfl rfl (zK 10 rfl (zc rfl (Tu J hX hf hl s) ?_))
 rintro bv h ⟨b',hp,s⟩
 have s:=s.ae [3,0]
 refine zc rfl (Jl J hB dL hw hn s (aK _ _) hp.good) ?_
 rintro v h ⟨aj,rfl,I,hs,rq,s⟩
 exact zk 2 rfl (WP.ret ⟨aa,_,rfl,aj,b',rfl,I,hs,rq,hp,s.del 1⟩)
noncomputable def ldL : Code:=cE [1,1,1,1,1,1,1,0,1,0,0] ((Tryz.f77.body).getD .skip)
theorem QC (hT:W told){nn:V}(hc:∀c∈cs,jl l c∧c.length≤225)(hlen:cs.length≤512)(hl:l≤64): ∀(j i:Nat) (h:H) (E:List (Nat×V)) (Q:Ex→List (Nat×V)→H→Prop),i+j=cs.length →
  Sat h (roH 1 cv us::dD us cs::S)→Has E [(1,nn),(6,v),(11,.int .i64 (l:Int)),(12,cv),(50,cv),(51,.int .i64 (cs.length:Int)),(52,.int .i64 (i:Int))] →
  (∀E' h',Has E' [(1,nn),(6,v),(11,.int .i64 (l:Int)),(12,cv)]→Sat h' (roH 1 cv us::dD us cs::S)→Q (.exit 0) E' h')→WP ⟨Tryz.prog,told⟩ 89 (.loop ldL) E h Q:=by
 intro j
 induction j with
 |zero =>
  intro i h E Q hi s hE hq
  have hi:i=cs.length:=hi
  subst hi
  refine WP.loop (WP.has hE (zg rfl (zC rfl aL (by simp) ?_)))
  exact zk 3 rfl (WP.exit (hq _ _ ⟨rfl,rfl,rfl,rfl,aa⟩ s))
 |succ j ih =>
  intro i h E Q hi s hE hq
  obtain⟨c,uK⟩:∃c,cs[i]?=some c:=⟨_,aG (by omega)⟩
  obtain⟨u,id,off,e1,e2,_,s⟩:=Bi (P:=Tryz.prog) (ry _ _ _).s uK bh eZ ah s
  obtain⟨I,ff⟩:=hc c (aR uK)
  have hv:=s.aq (k:=2) rfl (aY _ _)
  refine WP.loop (WP.has hE (zg rfl (zB rfl aL (by simp;omega) ?_)))
  refine zk 5 rfl (WP.block (zg rfl (zo rfl (bx (r:=.ptr id off) rfl rfl e1) (zl rfl e2 (zk 5 rfl ?_)))))
  by_cases h0:l=0
  ·subst h0
   have I:1≤c.length∧1+c.getD 0 0≤c.length:=I
   have J:c[0]?=some (c.getD 0 0):=by grind
   obtain⟨lz,bo,e3,e4⟩:=c7 hv J
   generalize c.getD 0 0=z at I J e3 e4
   have hz:z<256:=hv.1 z (aR J)
   refine zB rfl ej (by simp) ?_
   refine zk 2 rfl (zo rfl (aC rfl rfl rfl (au ak hv)) (zC rfl ej (decide_eq_false (by omega)) ?_))
   refine zk 2 rfl (zo rfl (aC rfl rfl rfl (au ak hv)) (zm rfl (zo rfl (bx (r:=.ptr lz bo) rfl rfl e3) (zl rfl e4 (zo rfl (b8 rfl (by exact jN Tryz.underlying5 bP (ay (by omega) (by omega)))) ?_)))))
   refine zo rfl (az (r:=.int .i64 ((1+z:Nat):Int)) rfl rfl (by rw[show((1+z:Nat):Int)=1+(z:Int) by omega];exact aO (ay (by omega) (by omega)))) ?_
   refine zC rfl aL (by simp;omega) ?_
   refine zk 4 rfl (zC rfl cL (by simp) ?_)
   refine zk 6 rfl (zv (zj rfl (WP.skip (zr rfl (zb rfl (by exact aO (ay (by omega) (by omega))) ?_)))))
   refine zm rfl (zv ?_)
   exact ih (i+1) _ _ Q (by omega) (s.del 2) ⟨rfl,rfl,rfl,rfl,rfl,rfl,rfl,aa⟩ hq
  ·have I:4≤c.length:=by rw[jl,ax h0] at I;exact I
   refine zC rfl ej (by simp;omega) ?_
   refine zk 17 rfl (zB rfl cL (by simp;omega) ?_)
   refine zk 2 rfl (zo rfl (aC rfl rfl rfl (au ak hv)) (zC rfl aL (by simp;omega) ?_))
   refine zk 2 rfl (zv (zj rfl (WP.skip (zr rfl (zb rfl (by exact aO (ay (by omega) (by omega))) ?_)))))
   refine zm rfl (zv ?_)
   exact ih (i+1) _ _ Q (by omega) (s.del 2) ⟨rfl,rfl,rfl,rfl,rfl,rfl,rfl,aa⟩ hq
theorem wz (hT:W told)(hR:kf told N B rv A pg)(dL:EI N B ε)(hn:n<N)(hp:cm (pg ε n) 204 0 l cs)(hc:∀c∈cs,jl l c∧c.length≤225)(hl:l≤64)(s:Sat h (A ε::S)):
  Call ⟨Tryz.prog,told⟩ 77 [rv,.int .i64 (n:Int)] h fun v h'=>∃x aj,v=.aW [.ptr x 0,.int .i64 0]∧EI N B aj∧Sm N ε aj∧Sat h' (cH x n l (pg ε n) cs::A aj::S):=by
 obtain⟨ty,u,f,rfl,hm,jK⟩:=hR.iface
 have dN:=hp.fits
 obtain⟨YG,xO,I,J⟩:=hp.reads
 refine Call.of_wp (hT.free _ rfl) Tryz.func77 rfl rfl (zK 9 rfl (aA.any rfl rfl rfl (OpR.invoke rfl rfl rfl hm rfl (jK (n:=(n:Int)) dL (by omega) (by omega) s)) ?_))
 rintro v h ⟨bv,aj,rfl,BL,hs,s⟩
 refine zk 10 rfl (zC rfl aN (rfl) (zk 6 rfl (zc rfl (E7 hT s (aK _ _) (by omega)) ?_)))
 rintro v h ⟨s,(⟨hg,rfl⟩|⟨hg,rfl⟩)⟩
 ·rw[I,J]
  have s:=s.fD
  refine zk 16 rfl (zC rfl aN (rfl) (zk 2 rfl (zC rfl aN (by decide) ?_)))
  refine zk 3 rfl (zC rfl cL (by simp;omega) ?_)
  refine zk 7 rfl (zc rfl (Nu hT s (aY _ _) hp) ?_)
  rintro v h ⟨cv,us,rfl,s⟩
  have s:=s.rz
  refine zk 10 rfl (zC rfl aN (rfl) (zk 7 rfl (zo rfl (aC rfl rfl rfl (wu (ry _ _ _).s bh s)) (zk 2 rfl (WP.block (QC hT hc (by omega) hl cs.length 0 _ _ _ (by omega) s ⟨rfl,rfl,rfl,rfl,rfl,rfl,rfl,aa⟩ fun E' h' fh s' => ?_))))))
  have s:=s'
  have Om:cv.cells=[cv]∧storable cv=true:=by
   rcases (s.u7 (j:=0) rfl (ry _ _ _)).2 with⟨rfl,_⟩|⟨_,_,_,_,_,rfl,_⟩<;>exact⟨rfl,rfl⟩
  have Zu:=(s.aq (k:=2) rfl (aY _ _)).cells
  refine WP.has fh (zK 6 rfl (zo rfl (cP (r:=.agg (BQ n l bv cv)) rfl (NC (s.aq (k:=2) rfl (aY _ _)) (s.u7 (j:=0) rfl (ry _ _ _)))) (aA.cB s rfl rfl rfl (fH rfl (by simp only[V.cells,kI,lM,Om.2,Zu.2];rfl)) ?_)))
  intro x h s
  exact zk 3 rfl (WP.ret ⟨aa,_,rfl,x,aj,rfl,BL,hs,bQ.2 ⟨bv,cv,us,s.ae [0,2,0,0]⟩⟩)
 ·rw[xO] at hg;cases hg
end
def Gs (v:V)(us:List V): aI:=.xs fun o:Option Nat=>match o with
 |none=>.an (.arr 1 v []) (.pu (us=[]))
 |some x=>.an (pt x (.cells us.length us false)) (.pu (v=.sl x 0 us.length (.rest 1 0)∧1≤us.length∧us.all storable=true))
section
variable {v:V} {i:TypeInfo}
theorem wA : bX (Gs v us) (.arr 1 v us):=fun m r h=>by
 obtain⟨_|x,I,J⟩:=h
 ·have J:us=[]:=J
  subst J
  exact I
 ·obtain⟨rfl,h3,h4⟩:=J
  have I:m x=some (.cells us.length us false):=I
  exact⟨h4,.inr ⟨x,us.length,.rest 1 0,us.length,[],rfl,by rw[g_];exact I,by omega,by rw[bI,dA],rfl,rfl,rfl,rfl,h3⟩⟩
theorem Jm (s:Sat h (Gs v us::S))(J:1≤us.length): ∃x,v=.sl x 0 us.length (.rest 1 0)∧us.all storable=true∧Sat h (pt x (.cells us.length us false)::S):=by
 obtain⟨_|x,s⟩:=iC.1 s
 ·have s:Sat h (aI.an (.arr 1 v []) (.pu (us=[]))::S):=s
  obtain⟨_,_,_,_,_,I⟩:=s.at (k:=0) rfl
  have I:us=[]:=I
  subst I
  simp at J
 ·have s:Sat h (aI.an (pt x (.cells us.length us false)) (.pu (v=.sl x 0 us.length (.rest 1 0)∧1≤us.length∧us.all storable=true))::S):=s
  obtain⟨_,_,_,_,_,q1,q2,q3⟩:=s.at (k:=0) rfl
  exact⟨x,q1,q3,s.dG fun _ _ h=>h.1⟩
theorem z8 (J:1≤us.length)(I:us.all storable=true)(s:Sat h (pt x (.cells us.length us false)::S)): Sat h (Gs (.sl x 0 us.length (.rest 1 0)) us::S) :=
 s.dG fun _ _ h=>⟨some x,h,rfl,J,I⟩
theorem ab6 (hu:P.underlying t=some (.slice e)): binV P h .eql t ox oy .aV .aV=some (.bool true):=by simp only[binV,eqV,hu,fQ]
theorem ab7 {cap:Cap}(hu:P.underlying t=some (.slice e)): binV P h .eql t ox oy (.sl id off n cap) .aV=some (.bool false):=by simp only[binV,eqV,hu,fQ]
theorem bs0 (hu:P.underlying t=some (.slice e))(I:zeroT P e=some z)(hs:bg P e=some z.cells.length)(J:Nat.ble 1 z.cells.length=true:=by rfl): buildSliceV P h t 0 []=some (.sl h.next 0 0 (.exact 0),h.new (.cells 0 [] false)):=by
 unfold buildSliceV
 simp only[hu,hs,I]
 rw[show(Nat.beq z.cells.length z.cells.length&&Nat.ble (0*z.cells.length) 65536&&Nat.ble 1 z.cells.length)=true by rw[jY,J,jd];rfl,ag]
 rfl
theorem Zv (a:nQ (T.get h.tr) 1 v us)(hu:P.underlying t=some (.slice e))(I:bg P e=some 1): ∃v',sliceV P h t v (some us.length) none none=some v':=by
 rcases a.2 with⟨rfl,rfl⟩|⟨id,n,cap,N,rest,rfl,hg,q1,q2,q3,J⟩
 ·refine⟨.aV,?_⟩
  simp only[sliceV,hu,I,eo,cS,bI]
  rfl
 ·rw[cz] at q1
  subst q1
  refine Option.isSome_iff_exists.1 ?_
  cases cap with
  |exact c =>
   have J:_∧us.length≤c:=J
   simp only[sliceV,hu,I,eo,cS]
   rw[show(Nat.ble us.length us.length&&Nat.ble us.length c)=true by simp;omega,ag]
   rfl
  |rest z alt =>
   have J:z=1∧_:=J
   simp only[sliceV,hu,I,eo,cS]
   rw[show(Nat.beq z 1&&Nat.ble 1 1)=true by simp[J.1],ag,show(Nat.ble us.length us.length&&(Nat.ble us.length us.length||Nat.ble us.length (fC h id 0 1)))=true by simp,ag]
   rfl
theorem QD {ds:List V}(hX:tX X 1 w ds)(s:Sat h (X::S))(hu:P.underlying t=some (.slice e))(hi:P.info? e=some i)(hz:zeroT P e=some z)(hk:i.size=1)(hb:i.bytes≤4096)(hl:z.cells.length=1)(fM:ds.length≤1073741824):
  ∃v' h',appendV P (h.new (.cells 0 [] false)) #[t,t] (.sl h.next 0 0 (.exact 0)) w=some (v',h')∧Sat h' (Gs v' ds::X::S):=by
 have J:=s.new (.cells 0 [] false)
 have lq:=(s.nr (j:=0) rfl hX).1
 obtain⟨n,hn,I⟩:=Qj (J.nr (j:=1) rfl hX)
 rw[cz] at hn
 subst hn
 unfold appendV
 simp only[hu,hi,hz,hk,hl,I]
 rw[show(Nat.ble 1 1&&Nat.ble i.bytes 4096&&Nat.beq 1 1)=true by simp_all,ag]
 by_cases hm:ds.length=0
 ·have:ds=[]:=iz hm
  subst this
  refine⟨_,_,rfl,J.dG fun m r BC=>⟨none,?_,rfl⟩⟩
  exact⟨rfl,.inr ⟨h.next,0,.exact 0,0,[],rfl,BC,by rfl,by rfl,rfl,by rfl,aM _⟩⟩
 ·rw[eD hm,aS]
  have hg:jI (0+ds.length) i.bytes=true:=by
   have e3:(0+ds.length)*i.bytes≤(0+ds.length)*4096:=Ar _ hb
   grind[mh]
  have hr:rdN (h.new (.cells 0 [] false)) h.next 0 (0*1)=some []:=by
   simp only[rdN,hO,cT]
   rfl
  have hle:Nat.ble (0+ds.length) 0=false:=by
   cases hq:Nat.ble (0+ds.length) 0 with
   |false=>rfl
   |true=>have:=aP.1 hq;omega
  simp only[hle,aS,hg,ag,hr]
  have e:iU (h.new (.cells 0 [] false)) 1 [] ds (0+ds.length)=(.sl (h.new (.cells 0 [] false)).next 0 ds.length (.rest 1 0),(h.new (.cells 0 [] false)).new (.cells ds.length ds false)):=by
   simp only[iU,ep,cz,cO]
  rw[e]
  exact⟨_,_,rfl,z8 (by omega) lq (J.drop.new _)⟩
end
section
variable {told:cy} {v:V}
theorem z_ (hT:W told)(s:Sat h (X::S))(hX:tX X 1 v us)(hl:us.length≤512): Call ⟨Tryz.prog,told⟩ 48 [v] h fun r h'=>Sat h' (Gs r us::X::S):=by
 obtain⟨i1,I,J,om⟩:=tQ
 have hm:=s.nr (j:=0) rfl hX
 refine Call.of_wp (hT.free _ rfl) Tryz.func48 rfl rfl ?_
 rcases hm.2 with⟨rfl,rfl⟩|⟨id,off,n,cap,N,row,rfl,hg,q1,q2,q3,q4⟩
 ·skip
  exact zK 8 rfl (zo rfl (az (r:=.bool true) rfl rfl (ab6 bh)) (zk 6 rfl (WP.ret ⟨aa,_,rfl,s.map fun m r hs=>⟨fun _=>none,m,fun _=>.inl rfl,fun _ _ h=>(by cases h),PM.le_refl _,⟨none,⟨rfl,.inl ⟨rfl,rfl⟩⟩,rfl⟩,hs⟩⟩)))
 ·skip
  refine zK 8 rfl (zo rfl (az (r:=.bool false) rfl rfl (ab7 bh)) (zk 5 rfl (aA.any rfl rfl rfl (OpR.of (R:=fun v h'=>v=.sl h.next 0 0 (.exact 0)∧h'=h.new (.cells 0 [] false)) (gI rfl (bs0 bh k8 eZ)) ⟨rfl,rfl⟩) ?_)))
  rintro v' h' ⟨rfl,rfl⟩
  obtain⟨av,h2,qb,s2⟩:=QD (P:=Tryz.prog) hX s bh I k8 J (by omega) rfl (by omega)
  refine zm rfl (aA.any rfl rfl rfl (OpR.of (R:=fun v h'=>v=av∧h'=h2) (iG rfl rfl qb) ⟨rfl,rfl⟩) ?_)
  rintro v' h ⟨rfl,rfl⟩
  have s:=s2
  exact zk 2 rfl (WP.ret ⟨aa,_,rfl,s⟩)
structure U0 (told:cy): Prop where
 free:∀f,Nat.beq f 52=true→told f=none
theorem U0.base : U0 qW:=⟨fun f I=>by
 have:=beq_iff.1 I
 subst this
 rfl⟩
theorem WD (hT:U0 told)(s:Sat h (.arr 1 v us::.arr 1 y [u]::S))(hl:us.length≤512): Call ⟨Tryz.prog,told⟩ 52 [v,.int .i64 (us.length:Int),y] h fun r h'=>Sat h' (.arr 1 r (us++[u])::S):=by
 obtain⟨i1,I,J,om⟩:=tQ
 obtain⟨v1,Ll⟩:=Zv (P:=Tryz.prog) (s.u7 (j:=0) rfl (mA _ _ _)) bh eZ
 refine Call.of_wp (hT.free _ rfl) wm rfl rfl (zK 8 rfl (zo rfl (bS (p:=some (.int .i64 (us.length:Int))) (q:=none) (m:=none) (p':=some us.length) (q':=none) (m':=none) rfl rfl rfl rfl (by rw[b9 (by omega)];rfl) rfl rfl Ll) ?_))
 refine zk 4 rfl (zo rfl (aC rfl rfl rfl (s.eY (j:=1) (n:=1) rfl rfl (by decide) bh)) ?_)
 refine zk 6 rfl (zC rfl ej (rfl) (zk 6 rfl (zo rfl (aC rfl rfl rfl (s.eY (j:=0) (n:=us.length) rfl (by rw[cz]) (by decide) bh)) ?_)))
 refine zk 7 rfl (zB rfl ej (by simp) ?_)
 obtain⟨av,h2,qb,s2⟩:=gK (P:=Tryz.prog) s bh I k8 J (by omega) rfl (by decide) (by simp;omega)
 refine zk 6 rfl (aA.any rfl rfl rfl (OpR.of (R:=fun v h'=>v=av∧h'=h2) (iG rfl rfl qb) ⟨rfl,rfl⟩) ?_)
 rintro v' h ⟨rfl,rfl⟩
 have s:=s2.del 1
 exact zk 2 rfl (WP.ret ⟨aa,_,rfl,s⟩)
structure WI (told:cy): Prop extends WB told where
 ins:told 52=some (oo Tryz.prog 52 DR)
theorem WE (hT:WI told)(s:Sat h (Gs v us::pt x (.cells 1 [u] false)::S))(hu:storable u=true)(hi:i<us.length)(hl:us.length≤512):
  Call ⟨Tryz.prog,told⟩ 52 [v,.int .i64 (i:Int),.sl x 0 1 (.exact 1)] h fun r h'=>Sat h' (Gs r (cN i u us)::S):=by
 obtain⟨z,rfl,lq,s⟩:=Jm s (by omega)
 have hz:T.get h.tr z=some (.cells us.length us false):=by
  obtain⟨m,r,h1,_,h3⟩:=s.at (k:=0) rfl
  exact h1 _ _ h3
 have hx:T.get h.tr x=some (.cells 1 [u] false):=by
  obtain⟨m,r,h1,_,h3⟩:=s.at (k:=1) rfl
  exact h1 _ _ h3
 have h_:x≠z:=fun e=>s.ne e.symm
 obtain⟨r,h3,h4⟩:=uy (P:=Tryz.prog) (f:=52) (kr:=DR) (args:=[.sl z 0 us.length (.rest 1 0),.int .i64 (i:Int),.sl x 0 1 (.exact 1)]) (h:=h) (r:=(.sl h.next 0 (us.length+1) (.rest 1 0),(h.put z none).new (.cells (us.length+1) (cN i u us) false)))
  (.inl ⟨z,x,us.length,i,us,u,rfl,hz,hx,hi,rfl⟩) fun c w rN hw=>WC rN hz hx h_ hi (by omega) (hw _ (by simp))
 have hr:r=(.sl h.next 0 (us.length+1) (.rest 1 0),(h.put z none).new (.cells (us.length+1) (cN i u us) false)):=by
  rcases h4 with⟨x2,y2,n2,i2,tH,u2,I,g1,g2,g3,rfl⟩|⟨_,⟨x2,n2,t2,y2,I⟩|⟨y2,I⟩⟩
  ·injection I with I J
   injection I with I _ e3 _
   injection J with J e4
   injection e4 with e4 _
   injection e4 with e4 _ _ _
   injection J with _ J
   subst I e4 e3
   have J:i=i2:=by omega
   subst J
   rw[hz] at g1
   rw[hx] at g2
   cases g1
   cases g2
   rfl
  ·injection I with I J
   injection I with _ _ e3 _
   injection J with J e4
   injection J with _ J
   omega
  ·exact absurd (congrArg List.head? I) (by simp)
 subst hr
 refine⟨_,_,gQ.told hT.ins wm rfl h3,?_⟩
 have hlen:(cN i u us).length=us.length+1:=j9 (by omega)
 have s1:=(s.kill.new (.cells (us.length+1) (cN i u us) false))
 have B0:(cN i u us).all storable=true:=by
  rw[mJ] at lq ⊢
  intro a ha
  simp only[cN,nD,gm] at ha
  rcases ha with h1|rfl|h1
  ·exact lq a (iA h1)
  ·exact hu
  ·exact lq a (gF h1)
 have s2:Sat ((h.put z none).new (.cells (us.length+1) (cN i u us) false)) (pt (h.put z none).next (.cells (cN i u us).length (cN i u us) false)::pt x (.cells 1 [u] false)::S):=by rw[hlen];exact s1
 have s3:=(z8 (by omega) B0 s2).del 1
 rw[hlen] at s3
 exact s3
theorem QE (hT:WI told)(s:Sat h (.arr 1 v us::.arr 1 y [u]::S))(hl:us.length≤512): Call ⟨Tryz.prog,told⟩ 52 [v,.int .i64 (us.length:Int),y] h fun r h'=>Sat h' (.arr 1 r (us++[u])::S):=by
 have hm:=s.u7 (j:=0) rfl (mA _ _ _)
 obtain⟨v1,h1,⟨N,hN⟩,hR⟩:=WD (told:=qW) U0.base s hl
 obtain⟨r,h3,h4⟩:=uy (P:=Tryz.prog) (f:=52) (kr:=DR) (args:=[v,.int .i64 (us.length:Int),y]) (h:=h) (r:=(v1,h1)) (.inr ⟨⟨N,hN⟩,by
   rcases hm.2 with⟨rfl,rfl⟩|⟨id,n,cap,N,rest,rfl,hg,q1,_⟩
   ·exact .inr ⟨y,rfl⟩
   ·rw[cz] at q1
    exact .inl ⟨id,n,cap,y,by rw[q1]⟩⟩) fun c w I hw=>(callF_ok (C:=CB) (AS zG w_ N).1 w_ hN I hw).1
 have hr:r=(v1,h1):=by
  rcases h4 with⟨x2,y2,n2,i2,tH,u2,e1,g1,g2,g3,rfl⟩|⟨hd,_⟩
  ·obtain⟨e1,J⟩:=List.cons.inj e1
   obtain⟨J,_⟩:=List.cons.inj J
   have J:=(V.int.inj J).2
   subst e1
   rcases hm.2 with⟨e,_⟩|⟨id,n,cap,N,rest,e,hg,q1,_⟩
   ·cases e
   ·cases e
    omega
  ·obtain⟨a,b⟩:=gQ.det hd ⟨N,hN⟩
   exact Prod.ext a b
 subst hr
 exact⟨_,_,gQ.told hT.ins wm rfl h3,hR⟩
end
abbrev Fx := List (Nat×uH)
variable {fx:Fx}
def iN (l:List (Nat×Nat)): List V:=l.flatMap fun e=>[.ptr e.1 0,.int .i64 (e.2:Int)]
theorem kg : ∀(l:List (Nat×Nat)),(iN l).length=l.length*2:=by
 intro l
 induction l with
 |nil=>rfl
 |cons e l I=>rw[iN,fE,aX];show 2+(iN l).length=_;rw[I,aZ];omega
theorem Jn {a b:List (Nat×Nat)}: iN (a++b)=iN a++iN b:=mH
def nodsA (P:Int→List Nat): Nat→Fx→aI
 |_,[]=>pu True
 |l,e::t=>star [cH e.1 e.2.pg l (P e.2.pg) (kisC e.2.ks),nodsA P (l+1) t]
def gZ (fx:Fx): List (Nat×Nat):=(fx.map fun e=>(e.1,e.2.i)).reverse
theorem tZ {e:Nat×uH}: gZ (e::fx)=gZ fx++[(e.1,e.2.i)]:=by simp[gZ]
section
variable {told:cy} {v:V} {k:List Nat}
theorem xx {P:Int→List Nat}{e:Nat×uH}{t:Fx}: Sat h (nodsA P l (e::t)::S)↔Sat h (cH e.1 e.2.pg l (P e.2.pg) (kisC e.2.ks)::nodsA P (l+1) t::S):=cG
theorem DT (J:W told)(hR:kf told N B rv A pg)(dL:EI N B ε){m:Nat}{ky:Ky}{cs':List (List Nat)}(hc:cs[i]?=some (ie m ky))(hm:m<N)(hN:N≤65536)(hp:cm (pg ε m) 204 0 l cs')(Pc:∀c∈cs',jl l c∧c.length≤225)(hl:l+1≤64)
 (s:Sat h (cH x n (l+1) b cs::A ε::S)):
  Call ⟨Tryz.prog,told⟩ 82 [.ptr x 0,rv,.int .i64 (i:Int)] h fun v h'=>∃y aj,v=.aW [.ptr y 0,.int .i64 0]∧EI N B aj∧Sm N ε aj∧Sat h' (cH y m l (pg ε m) cs'::cH x n (l+1) b cs::A aj::S):=by
 refine Call.of_wp (J.free _ rfl) Tryz.func82 rfl rfl (zK 10 rfl (zc rfl (Fq J hc (by omega) s) ?_))
 rintro v h ⟨rfl,s⟩
 refine zc rfl (wz J hR dL hm hp Pc (by omega) (s.ae [1])) ?_
 rintro v h ⟨y,aj,rfl,I,hs,s⟩
 have s0:=s
 obtain⟨bv,cv,us,s⟩:=bQ.1 s
 have s:=s.ae [5,0]
 obtain⟨bv2,Gt,us2,s⟩:=bQ.1 s
 have s:=s.ae [0,3]
 refine zk 8 rfl ?_
 have z0:=s
 refine WP.drawn [af,af,af,af,af,af,af,af,af,af,af,af,af,af] rfl (by kernel_rfl) (by kernel_rfl) ?_
 refine zM rfl (aE.vV rfl rfl rfl rfl (az rfl rfl ej) (rfl) (zM rfl (zM rfl (zN rfl (zF rfl (fT _ _) (zL rfl (s.ld (k:=1) rfl bZ rfl) (zM rfl (zN rfl (zF rfl (fT _ _) (zL rfl (s.ld (k:=0) rfl bZ rfl) (zO rfl (az rfl rfl (by exact ei (ay (by omega) (by omega)))) ?_)))))))))))
 refine aE.rX rfl rfl rfl rfl (az rfl rfl aN) (by simp) ?_
 refine zO rfl (mN rfl rfl) ?_
 refine aE.nil ⟨⟨aa,aa,aa,aa,aa,aa,aa,aa,aa,aa,aa,aa,aa,aa,aa⟩,?_⟩
 exact zK 9 rfl (WP.ret ⟨aa,_,rfl,y,aj,rfl,I,hs,s0.ae [0,1]⟩)
theorem Tv : ∃i,Tryz.prog.info? 94=some i∧i.size=2∧i.bytes≤4096 :=
 ⟨_,(show Tryz.prog.info? 94=some ((Tryz.prog.info? 94).getD default) by kernel_rfl),by kernel_rfl,oJ (by kernel_rfl)⟩
theorem Jo {wv:V}{c:List (Nat×Nat)}(hl:c.length≤200)(s:Sat h (.arr 2 wv (iN c)::S)): ∃xv I w J,buildSliceV Tryz.prog h 89 1 [(0,.agg [.ptr x 0,.int .i64 (i:Int)])]=some (xv,I)∧appendV Tryz.prog I #[89,89] wv xv=some (w,J)∧Sat J (.arr 2 w (iN (c++[(x,i)]))::S):=by
 obtain⟨i1,eT,gC,om⟩:=Tv
 obtain⟨xv,I,e1,s1⟩:=jB (P:=Tryz.prog) (k:=2) (x:=.agg [.ptr x 0,.int .i64 (i:Int)]) s fo Sf pV rfl (by decide) (by decide) rfl rfl
 obtain⟨w,J,e2,s2⟩:=gK (s1.ae [1,0]) fo eT Sf gC om rfl (by decide) (by rw[kg];simp[V.cells];omega)
 have s2:=s2.del 1
 exact⟨xv,I,w,J,e1,e2,by rw[Jn];exact s2⟩
noncomputable def tdL : Code:=cE [1,1,1,1,0,0,0] ((Tryz.f74.body).getD .skip)
theorem QF (hT:W told)(hR:kf told N B rv A pg)(hN:N≤65536){P:Int→List Nat}(hL:L≤64){g:FuncId}{K:aI}
 (tL:∀ {x n l:Nat} {b:List Nat} {ks:List gR} {lo:Ky} {hi:Option Ky} {h:H} {S:List aI},Sep lo hi ks→ks.length≤512→1≤l→l≤64→Sat h (cH x n l b (kisC ks)::K::S) →
   Call ⟨Tryz.prog,told⟩ g (.ptr x 0::caps) h fun v h'=>∃i:Nat,v=.int .i64 (i:Int)∧Ch ks i∧i<ks.length∧Sat h' (cH x n l b (kisC ks)::K::S)):
  ∀(l x n:Nat) (lo:Ky) (hi:Option Ky) (eL eR:List En) (pO:List Nat) (cs:List (List Nat)) (es:List En) (ps:List Nat) (fx:Fx) (wv:V) (ε:bw) (h:H) (E:List (Nat×V)) (S:List aI) (Q:Ex→List (Nat×V)→H→Prop),
  js F P L r (fx.map (·.2)) l lo hi n eL eR pO→Nv F P l lo hi cs es ps→cm (P n) 204 0 l cs→(fx.map (·.2)≠[]→F l cs)→EI N B ε→pg ε=P→(∀m∈ps,m<N)→fx.length+l=L→(∀e∈fx,Ch e.2.ks e.2.i) →
  Sat h (cH x n l (P n) cs::.arr 2 wv (iN (gZ fx))::nodsA P (l+1) fx::A ε::K::S)→Has E [(0,rv),(2,.fn (.func g) [] caps),(8,.ptr x 0),(10,wv)] →
  (∀E' h' x' n' kx iB mE lC lD es' I LW aj,js F P L r (I.map (·.2)) 0 kx iB n' mE lC lD→jH kx iB es'→cm (P n') 204 0 0 (es'.map dU)→(I.map (·.2)≠[]→F 0 (es'.map dU))→EI N B aj→Sm N ε aj→(∀e∈I,Ch e.2.ks e.2.i)→mE++es'++lC=eL++es++eR→(lD++[n']).Perm (pO++n::ps)→I.length=L →
   Has E' [(8,.ptr x' 0),(10,LW)]→Sat h' (cH x' n' 0 (P n') (es'.map dU)::.arr 2 LW (iN (gZ I))::nodsA P 1 I::A aj::K::S)→Q (.exit 0) E' h')→WP ⟨Tryz.prog,told⟩ 56 (.loop tdL) E h Q:=by
 intro l
 induction l with
 |zero =>
  intro x n lo hi eL eR pO cs es ps fx wv ε h E S Q pP Zw hp hF dL dW nT hlen Zx s hE hq
  obtain⟨rfl,lB,rfl⟩:=Zw
  have s0:=s
  obtain⟨bv,cv,us,s⟩:=bQ.1 s
  refine WP.loop (WP.has hE (zK 5 rfl (zY s 0 fT bZ rfl (zC rfl cL (by simp) ?_))))
  exact zk 2 rfl (WP.exit (hq _ _ x n lo hi eL eR pO es fx wv ε pP lB hp hF dL (Sm.refl N ε) Zx rfl (List.Perm.refl _) (by omega) ⟨rfl,rfl,aa⟩ s0))
 |succ l ih =>
  intro x n lo hi eL eR pO cs es ps fx wv ε h E S Q pP Zw hp hF dL dW nT hlen Zx s hE hq
  obtain⟨ks,rfl,hS,rfl,rfl,Zy⟩:=Zw
  have dN:=hp.fits
  rw[iy] at dN
  have wk:1≤ks.length:=by
   rcases lJ ks.length with q|q
   ·exact absurd (iz q) hS.ne
   ·exact q
  have s0:=s
  obtain⟨bv,cv,us,s⟩:=bQ.1 s
  refine WP.loop (WP.has hE (zK 5 rfl (zY s 0 fT bZ rfl (zB rfl cL (by simp) ?_))))
  refine zk 3 rfl (WP.block (zK 5 rfl (zY s 0 eW je rfl (zo rfl (aC rfl rfl rfl (j3 bh s)) ?_))))
  rw[iy]
  refine zC rfl ej (decide_eq_false (by omega)) ?_
  refine zk 7 rfl (zc rfl (tL hS (by omega) (by omega) (by omega) (s0.ae [0,3])) ?_)
  rintro v h ⟨i,rfl,hc,gC,s⟩
  have s:=s.ae [2,0,1,1,0]
  dsimp only[aT,bringA,getA] at s
  obtain⟨kk,J⟩:∃kk,ks[i]?=some kk:=⟨_,aG gC⟩
  obtain⟨cs',Zz,hF',rJ⟩:=Zy i kk J
  have pI:=j_ J
  have nL:(gZ fx).length≤200:=by rw[gZ,ju,cq];omega
  obtain⟨xv,h1,w,h2,e1,e2,s2⟩:=Jo (x:=x) (i:=i) nL s
  refine zk 7 rfl (zo rfl (cP (r:=.agg [.ptr x 0,.int .i64 (i:Int)]) rfl (by rw[Yq];rfl)) ?_)
  refine aA.any rfl rfl rfl (OpR.of (R:=fun v h'=>v=xv∧h'=h1) (gI rfl e1) ⟨rfl,rfl⟩) ?_
  rintro xv h1 ⟨rfl,rfl⟩
  refine aA.any rfl rfl rfl (OpR.of (R:=fun v h'=>v=w∧h'=h2) (iG rfl rfl e2) ⟨rfl,rfl⟩) ?_
  rintro w h2 ⟨rfl,rfl⟩
  have s:=s2.ae [1,2,0,0,0]
  dsimp only[bringA,getA,aT] at s
  refine zk 7 rfl ?_
  have uV:kk∈ks:=aR J
  have QG:∀m∈gu kk,m<N:=fun m hm=>nT m (List.mem_flatMap.2 ⟨kk,uV,hm⟩)
  refine zc rfl (DT hT hR dL pI (QG kk.pg bO) hN (by rw[dW];exact rJ) (fun c hc=>⟨(Zz.cells c hc).1,(Zz.cells c hc).2.1⟩) (by omega) s) ?_
  rintro v h ⟨y,aj,rfl,BL,hs,s⟩
  refine zk 5 rfl (zv (zg rfl (zm rfl (zh rfl (az rfl rfl aN) (rfl) (zv (zj rfl (WP.skip ?_)))))))
  have ab8:pg aj=P:=by rw[←dW];funext m;exact hR.same hs m
  have ab9:=pP.down hS hF hp Zy J
  rw[dW] at s
  have s:=s.ae [0,2,0,1,0]
  have s:=s.ae [2,2]
  have s:Sat h (nodsA P (l+1) ((x,⟨n,ks,i⟩)::fx)::_):=(xx (e:=(x,⟨n,ks,i⟩)) (t:=fx)).2 s
  have s:=s.ae [1,1,0]
  rw[←tZ (e:=(x,⟨n,ks,i⟩))] at s
  refine ih y kk.pg (loK lo ks i) (fV hi ks i) _ _ _ cs' kk.es kk.ps ((x,⟨n,ks,i⟩)::fx) _ aj _ _ S Q ab9 Zz rJ (fun _=>hF') BL ab8 (fun m hm=>QG m (bR _ hm)) (by rw[aZ];omega) (fun e he => ?_) s ⟨rfl,rfl,rfl,rfl,aa⟩ (fun E' h' x' n' kx ab_ mE lC lD es' I LW mD q1 q2 q3 q4 q5 q6 q7 q8 q9 r8 fh s' => ?_)
  ·rcases List.mem_cons.1 he with rfl|he
   ·exact hc
   ·exact Zx e he
  ·refine hq E' h' x' n' kx ab_ mE lC lD es' I LW mD q1 q2 q3 q4 q5 (hs.trans q6) q7 ?_ ?_ r8 fh s'
   ·rw[q8,DF J];simp[eB]
   ·refine q9.trans ?_
    rw[xu,DF J,vt]
    intro z
    simp only[gu,vy,vE,g9]
    omega
theorem LX (hT:W told)(hR:kf told N B rv A pg)(hN:N≤65536){P:Int→List Nat}(hL:L≤64){g:FuncId}{K:aI}
 (tL:∀ {x n l:Nat} {b:List Nat} {ks:List gR} {lo:Ky} {hi:Option Ky} {h:H} {S:List aI},Sep lo hi ks→ks.length≤512→1≤l→l≤64→Sat h (cH x n l b (kisC ks)::K::S) →
   Call ⟨Tryz.prog,told⟩ g (.ptr x 0::caps) h fun v h'=>∃i:Nat,v=.int .i64 (i:Int)∧Ch ks i∧i<ks.length∧Sat h' (cH x n l b (kisC ks)::K::S))(hv:Nv F P L lo hi cs es ps)(hp:cm (P r) 204 0 L cs)(dL:EI N B ε)(I:pg ε=P)(hr:r<N)(J:∀m∈ps,m<N)(jC:lo=[])(Gu:hi=none)(s:Sat h (A ε::K::S)):
  Call ⟨Tryz.prog,told⟩ 74 [rv,.int .i64 (r:Int),.fn (.func g) [] caps] h fun v h'=>∃w x n lo hi eL eR pO es' fx aj,v=.aW [w,.int .i64 0]∧js F P L r (fx.map (·.2)) 0 lo hi n eL eR pO∧jH lo hi es'∧cm (P n) 204 0 0 (es'.map dU)∧(fx.map (·.2)≠[]→F 0 (es'.map dU))∧EI N B aj∧Sm N ε aj∧(∀e∈fx,Ch e.2.ks e.2.i) ∧
   eL++es'++eR=es∧(pO++[n]).Perm (r::ps)∧fx.length=L∧Sat h' (.arr 2 w (iN (gZ fx++[(x,0)]))::cH x n 0 (P n) (es'.map dU)::nodsA P 1 fx::A aj::K::S):=by
 subst jC Gu
 refine Call.of_wp (hT.free _ rfl) Tryz.func74 rfl rfl (zK 9 rfl (zc rfl (wz hT hR dL hr (by rw[I];exact hp) (fun c hc=>⟨(hv.cells c hc).1,(hv.cells c hc).2.1⟩) hL s) ?_))
 rintro v h ⟨x,mw,rfl,ow,f_,s⟩
 rw[I] at s
 have ki:pg mw=P:=by rw[←I];funext m;exact hR.same f_ m
 refine zk 10 rfl (zC rfl aN (rfl) (zk 8 rfl (WP.block ?_)))
 have s:=((s.kS (k:=2)).fq (φ:=True) aa).ae [2,1,0]
 have s:Sat h (cH x r L (P r) cs::.arr 2 .aV (iN (gZ []))::nodsA P (L+1) []::_):=s
 refine QF hT hR hN (g:=g) (caps:=caps) (Ch:=Ch) hL tL L x r [] none [] [] [] cs es ps [] .aV mw _ _ _ _ ⟨rfl,rfl,rfl,rfl,rfl,rfl,rfl⟩ hv hp (fun q=>absurd rfl q) ow ki J (by simp) (fun e he=>by cases he) s ⟨rfl,rfl,rfl,rfl,aa⟩ fun E' h' x' n' kx iB mE lC lD es' fx' LW aj q1 q2 q3 q4 q5 q6 q7 q8 q9 r8 fh s' => ?_
 have s:=s'
 refine WP.has fh ?_
 have s:=s.ae [1]
 obtain⟨xv,h1,w,h2,e1,e2,s2⟩:=Jo (x:=x') (i:=0) (by rw[gZ,ju,cq];omega) s
 refine zK 4 rfl (zo rfl (cP (r:=.agg [.ptr x' 0,.int .i64 ((0:Nat):Int)]) rfl (by rw[Yq];rfl)) ?_)
 refine aA.any rfl rfl rfl (OpR.of (R:=fun v h'=>v=xv∧h'=h1) (gI rfl e1) ⟨rfl,rfl⟩) ?_
 rintro xv h1 ⟨rfl,rfl⟩
 refine aA.any rfl rfl rfl (OpR.of (R:=fun v h'=>v=w∧h'=h2) (iG rfl rfl e2) ⟨rfl,rfl⟩) ?_
 rintro w h2 ⟨rfl,rfl⟩
 exact zk 3 rfl (WP.ret ⟨aa,_,rfl,w,x',n',kx,iB,mE,lC,lD,es',fx',aj,rfl,q1,q2,q3,q4,q5,f_.trans q6,q7,by simpa using q8,by simpa using q9,r8,s2⟩)
theorem js.way {P:Int→List Nat}{k:Ky}: ∀ {fs:List uH} {l:Nat} {lo:Ky} {hi:Option Ky} {n:Nat} {eL eR:List En} {pO:List Nat},js F P L r fs l lo hi n eL eR pO→(∀f∈fs,Way f.ks k f.i)→Bd lo hi k:=by
 intro fs
 induction fs with
 |nil=>rintro l lo hi n eL eR pO ⟨_,rfl,rfl,_⟩ _;exact⟨by cases k with|nil=>exact oR _|cons x t=>exact oO (sH _ _),fun b I=>by cases I⟩
 |cons f fs J =>
  rintro l lo hi n eL eR pO ⟨kx,iB,mE,lC,lD,kk,h1,h2,rfl,rfl,rfl,_⟩ hw
  exact(hw f bO).bd (J h1 fun g hg=>hw g (bR _ hg))
theorem ZA (hT:WB told)(hX:bX X (b5 kv k)){kb:Nat}(hS:Sep lo hi ks)(hlen:ks.length≤512)(I:1≤l)(J:l≤64)(s:Sat h (cH x n l b (kisC ks)::star [pt kb (.cells 1 [kv] false),X]::S)):
  Call ⟨Tryz.prog,told⟩ 115 [.ptr x 0,.ptr kb 0] h fun v h'=>∃i:Nat,v=.int .i64 (i:Int)∧Way ks k i∧i<ks.length∧Sat h' (cH x n l b (kisC ks)::star [pt kb (.cells 1 [kv] false),X]::S):=by
 have hW:=hT.w
 have s:=cG.1 (s.ae [1])
 have s:Sat h (pt kb (.cells 1 [kv] false)::X::cH x n l b (kisC ks)::S):=s
 refine Call.of_wp (hW.free _ rfl) Tryz.func115 rfl rfl (zK 7 rfl (zy s 0 ah rfl (zc rfl (Zq hT hX hS hlen I J (s.ae [2,1])) ?_)))
 rintro v h ⟨i,rfl,hw,s⟩
 refine zk 2 rfl (WP.ret ⟨aa,_,rfl,?_⟩)
 have s:=s.ae [2,1,0]
 have s:Sat h (star [pt kb (.cells 1 [kv] false),X]::_):=cG.2 s
 exact⟨i,rfl,hw,hw.lt,s.ae [1]⟩
theorem NG (hT:WB told)(hR:kf told N B rv A pg)(hN:N≤65536){P:Int→List Nat}(hL:L≤64)(hX:bX X (b5 kv k))(hv:Nv F P L [] none cs es ps)(hp:cm (P r) 204 0 L cs)(dL:EI N B ε)(dW:pg ε=P)(hr:r<N)(J:∀m∈ps,m<N)(s:Sat h (A ε::X::S)):
  Call ⟨Tryz.prog,told⟩ 45 [rv,.int .i64 (r:Int),kv] h fun v h'=>∃w x n lo hi eL eR pO es' fx aj,v=.aW [w,.int .i64 0]∧js F P L r (fx.map (·.2)) 0 lo hi n eL eR pO∧jH lo hi es'∧cm (P n) 204 0 0 (es'.map dU)∧(fx.map (·.2)≠[]→F 0 (es'.map dU))∧EI N B aj∧Sm N ε aj∧Bd lo hi k ∧
   eL++es'++eR=es∧(pO++[n]).Perm (r::ps)∧fx.length=L∧Sat h' (.arr 2 w (iN (gZ fx++[(x,0)]))::cH x n 0 (P n) (es'.map dU)::nodsA P 1 fx::A aj::X::S):=by
 have hW:=hT.w
 have I:=s.aq (k:=1) rfl hX
 refine Call.of_wp (hW.free _ rfl) Tryz.func45 rfl rfl (zg rfl (aA.cB s rfl rfl rfl (fH rfl (by simp only[I.cells.1,kI,lM,I.cells.2];rfl)) ?_))
 intro kb h s
 rw[I.cells.1] at s
 have s:=s.ae [0,1,0]
 have s:Sat h (star [pt kb (.cells 1 [kv] false),X]::_):=cG.2 s
 refine zk 7 rfl (zo rfl (G0 rfl rfl) (zc rfl (LX hW hR hN (Ch:=fun ks i=>Way ks k i) hL (fun hS hlen yX iq s=>ZA hT hX hS hlen yX iq s) hv hp dL dW hr J rfl rfl (s.ae [1])) ?_))
 rintro v h ⟨w,x,n,lo,hi,eL,eR,pO,es',fx,aj,rfl,q1,q2,q3,q4,q5,q6,q7,q8,q9,r8,s⟩
 refine zk 5 rfl (WP.ret ⟨aa,_,rfl,?_⟩)
 have s:=cG.1 (s.ae [4])
 have s:=s.ae [2,2,2,2,1]
 refine⟨w,x,n,lo,hi,eL,eR,pO,es',fx,aj,rfl,q1,q2,q3,q4,q5,q6,q1.way fun f hf => ?_,q8,q9,r8,s.del 5⟩
 obtain⟨e,he,rfl⟩:=List.mem_map.1 hf
 exact q7 e he
end
def fb (es:List En)(k:Ky): Option Ky:=(es.find? fun e=>decide (e.1=k)).map (·.2)
section
variable {k:Ky}
theorem uM (h:∀e∈es,e.1≠k): fb es k=none:=by
 unfold fb
 rw[List.find?_eq_none.2 fun e he=>by simpa using h e he]
 rfl
theorem Ci : fb (eL++es) k=(fb eL k).or (fb es k):=by
 unfold fb
 rw[Er]
 cases eL.find? fun e=>decide (e.1=k)<;>rfl
theorem LY {e:En}(h:(es.map (·.1)).Nodup)(he:es[i]?=some e)(J:e.1=k): fb es k=some e.2:=by
 unfold fb
 have:es.find? (fun e=>decide (e.1=k))=some e:=by
  induction es generalizing i with
  |nil=>simp at he
  |cons a t ih =>
   simp only[jb,sI] at h
   rw[List.find?_cons]
   cases i with
   |zero =>
    simp only[iW,aD] at he
    subst he
    simp[J]
   |succ i =>
    simp only[oH] at he
    have I:a.1≠k:=fun q=>h.1 (by rw[q,←J];exact vr (aR he))
    simp only[I,vI]
    exact ih h.2 he
 rw[this]
 rfl
theorem BP.none (h:BP es k i)(hs:jH lo hi es)(J:sameE es k i=false): fb es k=none:=by
 refine uM fun e he q => ?_
 obtain⟨j,I⟩:=List.mem_iff_getElem?.1 he
 by_cases h1:j<i
 ·have:=h.lo j e I h1
  rw[q] at this
  exact absurd this (kH _)
 ·rcases Au (oK h1) with h2|rfl
  ·obtain⟨d,hd⟩:∃d,es[i]?=some d:=⟨_,aG (by have:=(List.getElem?_eq_some_iff.1 I).1;omega)⟩
   have h3:=h.hi i d hd (aM _)
   have h4:=hs.get hd I h2
   rw[q] at h4
   exact absurd h4 (List.not_lt.2 h3)
  ·simp only[sameE,I,q,AF] at J
   cases J
theorem Jp (I:∀e∈eL,e.1<k)(J:∀e∈eR,k<e.1): fb (eL++es++eR) k=fb es k:=by
 rw[Ci,Ci,uM (es:=eL) (fun e he q=>absurd (q ▸ I e he) (kH _)),uM (es:=eR) (fun e he q=>absurd (q ▸ J e he) (kH _))]
 cases fb es k<;>rfl
theorem js.side {P:Int→List Nat}{fs:List uH}(h:js F P L r fs l lo hi n eL eR pO)(hb:Bd lo hi k): (∀e∈eL,e.1<k)∧∀e∈eR,k<e.1:=by
 obtain⟨h1,h2⟩:=h.bd
 refine⟨fun e he => ?_,fun e he => ?_⟩
 ·exact Em (h1 e he) hb.1
 ·obtain⟨b,I,J⟩:=h2 e he
  exact Em (hb.2 b I) J
theorem Jq (h:sameE es k i=true): ∃e,es[i]?=some e∧e.1=k:=by
 unfold sameE at h
 cases q:es[i]? with
 |none=>rw[q] at h;cases h
 |some e=>rw[q] at h;exact⟨e,rfl,oJ h⟩
theorem Fu (e:En): (dU e).drop (1+(dU e).getD 0 0)=e.2:=by
 simp[dU,Nat.add_comm 1]
theorem jH.nodup (h:jH lo hi es): (es.map (·.1)).Nodup:=by
 have:=h.jX
 rw[KD,List.pairwise_map]
 exact this.imp fun h q=>absurd (q ▸ h) (kH _)
end
section
variable {c:List (Nat×Nat)}
theorem xy (hu:P.underlying t=some (.slice e))(J:bg P e=some 2)(I:c[j]?=some (x,i))(s:Sat h (.arr 2 w (iN c)::S)):
  ∃id off,indexAddrV P t w (.int .i64 (j:Int))=some (.ptr id off)∧(∀t',isAggT P t'=some false→loadV P h t' (.ptr id off)=some (.ptr x 0))∧∀t',isAggT P t'=some false→loadV P h t' (.ptr id (off+1))=some (.int .i64 (i:Int)):=by
 have Py:=(List.getElem?_eq_some_iff.1 I).1
 have hg:∀ {c:List (Nat×Nat)} {j:Nat},c[j]?=some (x,i)→((iN c).drop (j*2)).take 2=[.ptr x 0,.int .i64 (i:Int)]:=by
  intro c
  induction c with
  |nil=>simp
  |cons a t ih =>
   intro j I
   cases j with
   |zero =>
    simp only[iW,aD] at I
    subst I
    rfl
   |succ j =>
    rw[show iN (a::t)=[.ptr a.1 0,.int .i64 (a.2:Int)]++iN t from rfl,show(j+1)*2=2+j*2 by omega,←sK]
    exact ih I
 obtain⟨id,off,e1,e2⟩:=Yu (P:=P) (t:=t) (e:=e) (i:=j) (s.u7 (j:=0) rfl (mA _ _ _)) (by rw[kg];omega) (by decide) hu J
 rw[hg I] at e2
 exact⟨id,off,e1,fun t' ht=>e2 0 _ t' rfl ht,fun t' ht=>e2 1 _ t' rfl ht⟩
end
section
variable {told:cy} {v:V} {k:List Nat}
theorem WG (hT:WB told)(hR:kf told N B rv A pg)(hN:N≤65536){P:Int→List Nat}(hL:L≤64)(hX:bX X (b5 kv k))(hk:1≤k.length∧k.length≤96)(hv:Nv F P L [] none cs es ps)(hp:cm (P r) 204 0 L cs)(dL:EI N B ε)(dW:pg ε=P)(hr:r<N)(I:∀m∈ps,m<N)(s:Sat h (A ε::X::S)):
  Call ⟨Tryz.prog,told⟩ 17 [rv,.int .i64 (r:Int),kv] h fun v h'=>∃aj,EI N B aj∧Sm N ε aj∧match fb es k with
   |none=>v=.aW [.aV,.bool false,.int .i64 0]∧Sat h' (A aj::X::S)
   |some val=>∃bv,v=.aW [bv,.bool true,.int .i64 0]∧Sat h' (aQ bv val::A aj::X::S):=by
 have hW:=hT.w
 refine Call.of_wp (hW.free _ rfl) Tryz.func17 rfl rfl (zK 10 rfl (zc rfl (Jk hW (s.ae [1]) hX) ?_))
 rintro v h' ⟨rfl,rfl⟩
 rw[dy hk]
 refine zo rfl (eG rfl rfl) (zk 8 rfl (zc rfl (NG hT hR hN hL hX hv hp dL dW hr I s) ?_))
 rintro v h ⟨w,x,n,lo,hi,eL,eR,pO,es',fx,aj,rfl,q1,J,q3,q4,q5,q6,q7,q8,q9,r8,s⟩
 refine zk 10 rfl (zC rfl aN (rfl) ?_)
 have Aa:(gZ fx).length=L:=by rw[gZ,ju,cq,r8]
 have nL:(gZ fx++[(x,0)]).length=L+1:=by rw[aX,Aa];rfl
 obtain⟨id,off,e1,e2,_⟩:=xy (P:=Tryz.prog) (j:=L) (x:=x) (i:=0) fo pV (by rw[g8 (by omega),Aa,gG];rfl) s
 refine zk 7 rfl (zo rfl (aC rfl rfl rfl (s.eY (j:=0) (n:=L+1) rfl (by rw[kg,nL]) (by decide) fo)) ?_)
 refine zo rfl (az (r:=.int .i64 (L:Int)) rfl rfl (by rw[show((L:Nat):Int)=((L+1:Nat):Int)-1 by omega];exact ei (ay (by omega) (by omega)))) ?_
 refine zo rfl (bx (r:=.ptr id off) rfl rfl e1) (zf rfl (oc _ _) (zl rfl (e2 _ uY) (zk 6 rfl (zc rfl (Cg hT hX J (by have:=q3.fits;rw[cq] at this;omega) (s.ae [1,3])) ?_))))
 rintro v h ⟨i,rfl,hl,s⟩
 obtain⟨f_,l7⟩:=q1.side q7
 rw[←q8,Jp f_ l7]
 cases hq:sameE es' k i with
 |false =>
  rw[hl.none J hq]
  exact zk 10 rfl (zo rfl (eG rfl rfl) (zk 8 rfl (WP.ret ⟨aa,_,rfl,aj,q5,q6,rfl,(s.ae [4,1]).del 4 |>.del 3 |>.del 2⟩)))
 |true =>
  obtain⟨e,he,zW⟩:=Jq hq
  rw[LY J.nodup he zW]
  obtain⟨c1,c2,c3⟩:=wq J he
  refine zk 10 rfl (zo rfl (eG rfl rfl) (zk 7 rfl (zc rfl (Fp hW c1 c2 c3 s) ?_)))
  rintro bv h s
  rw[Fu] at s
  refine zc rfl (rL hW s (aY _ _) (by have:=(J.sz e (aR he)).2.2;omega)) ?_
  intro r h s
  exact zk 4 rfl (WP.ret ⟨aa,_,rfl,aj,q5,q6,r,rfl,(s.ae [0,5,2]).del 6 |>.del 5 |>.del 4 |>.del 3⟩)
end
theorem ZB (M:List Nat): ∀N:Nat,(∀j,j<N→bt M j=true)∨∃lo,lo<N∧bt M lo=false∧∀j,j<lo→bt M j=true:=by
 intro N
 induction N with
 |zero=>exact .inl fun j J=>absurd J (vB _)
 |succ N I =>
  rcases I with I|⟨lo,h1,h2,h3⟩
  ·cases hb:bt M N with
   |true =>
    refine .inl fun j J => ?_
    rcases Au (Nat.le_of_lt_succ J) with q|rfl
    ·exact I j q
    ·exact hb
   |false=>exact .inr ⟨N,sF N,hb,I⟩
  ·exact .inr ⟨lo,by omega,h2,h3⟩
theorem ir.frame {p p':Int→List Nat}(h:ir n R M p)(I:p' 0=p 0)(J:p' 1=p 1): ir n R M p' :=
 ⟨by rw[I];exact h.head,h.rl,by rw[J];exact h.marks,h.ml,h.n1,h.n2,h.own,h.hi⟩
section
variable {told:cy} {p:Nat} {v:V}
theorem Ab (hT:W told)(hB:B≤2000)(J:EI N B ε)(hw:NW N now)(hp:ir N R M (pgG now ε))(ht:mY N M ps)(s:Sat h (GA g a p q r data bA now ε::S)):
  Call ⟨Tryz.prog,told⟩ 100 [.ptr g 0] h fun v h'=>∃aj bH,EI N B aj∧Sm N ε aj∧NW N bH∧bH.length≤now.length+2∧Sat h' (GA g a p q r data bA bH aj::S) ∧
   ((v=.aW [.int .i64 0,.int .i64 7]∧bH=now∧N≤ps.length+2)∨∃(z:Nat) (M':List Nat),v=.aW [.int .i64 (z:Int),.int .i64 0]∧2≤z∧z<N∧z∉ps∧ir N R M' (pgG bH aj)∧mY N M' (z::ps)∧∀m,m≠1→m≠(z:Int)→pgG bH aj m=pgG now ε m):=by
 rcases ZB M N with I|⟨lo,I,h2,h3⟩
 ·exact(NA hT hB J hw hp I s).mono fun v h' ⟨aj,e,a1,a2,a3⟩=>⟨aj,now,a1,a2,hw,by omega,a3,.inl ⟨e,rfl,oK fun cV=>by
   obtain⟨lo,g1,g2,_⟩:=ht.low cV
   rw[I lo g1] at g2
   cases g2⟩⟩
 ·have h4:=ht.bits lo I
  rw[h2] at h4
  have h5:=of_decide_eq_false h4.symm
  have h6:2≤lo:=by omega
  have h7:lo∉ps:=fun q=>h5 (.inr q)
  have tJ:=hp.n2
  have IA:=hp.ml
  refine(Qw hT hB J hw hp I h2 h3 s).mono fun v h' ⟨aj,bH,e,a1,a2,a3,a4,a5,a6,_,_,a7⟩=>⟨aj,bH,a1,a2,a3,a4,a7,.inr ⟨lo,DM M lo,e,h6,I,h7,a5,ht.more I h6 h7 fun j => ?_,a6⟩⟩
  rw[UX (by omega)]
  by_cases hj:j=lo
  ·simp[hj]
  ·simp[hj]
theorem Tw (hT:W told)(hB:B≤2000)(dL:EI N B ε)(hw:NW N now)(hp:ir N R M (pgG now ε))(ht:mY N M ps)(s:Sat h (GA g a p q r data bA now ε::S)):
  Call ⟨Tryz.prog,told⟩ 33 [.ptr g 0] h fun v h'=>∃aj bH,EI N B aj∧Sm N ε aj∧NW N bH∧bH.length≤now.length+3∧Sat h' (GA g a p q r data bA bH aj::S) ∧
   ((v=.aW [.int .i64 0,.int .i64 7]∧bH=now∧N≤ps.length+2)∨∃(z:Nat) (M':List Nat),v=.aW [.int .i64 (z:Int),.int .i64 0]∧2≤z∧z<N∧z∉ps∧ir N R M' (pgG bH aj)∧mY N M' (z::ps)∧dX (pgG bH aj z) 204 0 0 []∧∀m,m≠1→m≠(z:Int)→pgG bH aj m=pgG now ε m):=by
 refine Call.of_wp (hT.free _ rfl) Tryz.func33 rfl rfl (zK 8 rfl (zc rfl (Ab hT hB dL hw hp ht s) ?_))
 rintro v h ⟨J,I,b1,b2,b3,b4,s1,(⟨rfl,rfl,Ba⟩|⟨z,M',rfl,c1,c2,c3,c4,c5,c6⟩)⟩
 ·skip
  refine zk 10 rfl (zB rfl aN (by decide) ?_)
  exact zk 8 rfl (WP.ret ⟨aa,_,rfl,J,_,b1,b2,b3,by omega,s1,.inl ⟨rfl,rfl,Ba⟩⟩)
 ·skip
  refine zk 10 rfl (zC rfl aN (rfl) (zk 8 rfl ?_))
  have s:=((s1.kS (k:=1)).fq (φ:=True) aa).ae [2,1,0]
  have s:Sat h (GA g a p q r data bA I J::.arr 1 .aV []::dD [] []::S):=s
  refine zc rfl (rM hT hB b1 b3 c2 (mA _ _ _).s (by decide) (by decide) s) ?_
  rintro v h ⟨lZ,b',rfl,d1,d2,d3,d4,s⟩
  refine zk 3 rfl (WP.ret ⟨aa,_,rfl,?_⟩)
  have FY:∀m:Int,pgG I lZ m=pgG I J m:=fun m=>by rw[nu d2]
  refine⟨lZ,_,d1,b2.trans d2,d3,?_,(s.del 2).del 1,.inr ⟨z,M',rfl,c1,c2,c3,c4.frame ?_ ?_,c5,?_,fun m h1 h2 => ?_⟩⟩
  ·have:=qM (i:=(z:Int)) (b:=b') (now:=I);omega
  ·rw[fU,ax (by omega),FY]
  ·rw[fU,ax (by omega),FY]
  ·rw[fU,aH rfl];exact d4
  ·rw[fU,ax (fun e=>h2 e.symm),FY];exact c6 m h1 h2
end
section
variable {f:V→α→aI} {a b:PM}
theorem Gv : ∀ {l:List V} {m:List α} (k:Nat),(each f l m).p a b→(each f (l.take k) (m.take k)).p a b:=by
 intro l
 induction l with
 |nil=>intro m k h;cases m with
  |nil=>simpa using h
  |cons x m=>exact h.elim
 |cons v l I=>intro m k h;cases m with
  |nil=>exact h.elim
  |cons x m=>cases k with
   |zero=>exact aa
   |succ k=>exact⟨h.1,I k h.2⟩
theorem Gw : ∀ {l:List V} {m:List α} (k:Nat),(each f l m).p a b→(each f (l.drop k) (m.drop k)).p a b:=by
 intro l
 induction l with
 |nil=>intro m k h;cases m with
  |nil=>simpa using h
  |cons x m=>exact h.elim
 |cons v l I=>intro m k h;cases m with
  |nil=>exact h.elim
  |cons x m=>cases k with
   |zero=>exact h
   |succ k=>exact I k h.2
end
def acd (v:V)(b:Nat): V:=match v with
 |.sl id off _ _=>.sl id off b (.exact b)
 |v=>v
def ace (v:V)(a:Nat): V:=match v with
 |.sl id off n (.exact c)=>.sl id (off+a*1) (n-a) (.exact (c-a))
 |.sl id off n (.rest _ alt)=>.sl id (off+a*1) (n-a) (.rest 1 (cond (Nat.beq a 0) alt (cond (Nat.blt a n) (off+a*1) off)))
 |v=>v
section
variable {v:V} {cs:List V}
theorem G9 {b:Nat}(hm:uI (T.get h.tr) 1 v cs)(hb:b≤cs.length)(h1:1≤b)(hu:P.underlying t=some (.slice e))(I:bg P e=some 1): sliceV P h t v none (some b) (some b)=some (acd v b):=by
 rcases hm.2 with⟨rfl,rfl⟩|⟨id,off,n,cap,N,row,rfl,hg,q3,q4,q5,J⟩
 ·simp at hb;omega
 ·have hl:cs.length=n:=by rw[←q5,cj,gi];omega
  cases cap with
  |exact c =>
   have J:n≤c:=J
   simp only[sliceV,hu,I,eo]
   rw[show(Nat.ble 0 b&&Nat.ble b b&&Nat.ble b c)=true by simp;omega,ag,eD (by omega),aS,jY,dA,fR]
   rfl
  |rest a alt =>
   have J:a=1∧_:=J
   simp only[sliceV,hu,I,eo]
   rw[show(Nat.beq a 1&&Nat.ble 1 1)=true by simp[J.1],ag,show(Nat.ble 0 b&&Nat.ble b b&&(Nat.ble b n||Nat.ble b (fC h id off 1))&&Nat.blt 0 n)=true by simp[eO];omega,ag,eD (by omega),aS,jY,dA,fR]
   rfl
theorem U1 (hm:uI (T.get h.tr) 1 v cs)(ha:a<cs.length)(hu:P.underlying t=some (.slice e))(I:bg P e=some 1): sliceV P h t v (some a) none none=some (ace v a):=by
 rcases hm.2 with⟨rfl,rfl⟩|⟨id,off,n,cap,N,row,rfl,hg,q3,q4,q5,J⟩
 ·simp at ha
 ·have hl:cs.length=n:=by rw[←q5,cj,gi];omega
  cases cap with
  |exact c =>
   have J:n≤c:=J
   simp only[sliceV,hu,I,eo,cS]
   rw[show(Nat.ble a n&&Nat.ble n c)=true by simp;omega,ag,eD (by omega),aS]
   rfl
  |rest z alt =>
   have J:z=1∧off+n*1=N:=J
   simp only[sliceV,hu,I,eo,cS]
   rw[show(Nat.beq z 1&&Nat.ble 1 1)=true by simp[J.1],ag,show(Nat.ble a n&&(Nat.ble n n||Nat.ble n (fC h id off 1)))=true by simp;omega,ag]
   rfl
end
section
variable {told:cy} {v:V}
theorem Tx (k:Nat)(s:Sat h (dD us cs::S)): Sat h (dD (us.take k) (cs.take k)::dD us cs::S) :=
 (s.dup (aJ.rK _ _)).dG fun _ _ h=>Gv k h
theorem Ty (k:Nat)(s:Sat h (dD us cs::S)): Sat h (dD (us.drop k) (cs.drop k)::dD us cs::S) :=
 (s.dup (aJ.rK _ _)).dG fun _ _ h=>Gw k h
theorem Tz (hT:W told)(hX:tX X 1 cv us)(hc:cs[i]?=some c)(I:jl l c)(hl:l≤64)(ff:c.length≤225)(s:Sat h (pt x (.cells 4 (BQ n l bv cv) false)::X::dD us cs::S)):
  Call ⟨Tryz.prog,told⟩ 117 [.ptr x 0,.int .i64 (i:Int)] h fun r h'=>Sat h' (l9 r (fN l c)::pt x (.cells 4 (BQ n l bv cv) false)::X::dD us cs::S):=by
 have s:=s.ae [1,1]
 obtain⟨u,id,off,e1,e2,Zk,s⟩:=Bi (P:=Tryz.prog) hX hc bh eZ ah s
 have s:=s.ae [3,0,0,0]
 have hv:=s.aq (k:=3) rfl (aY _ _)
 refine Call.of_wp (hT.free _ rfl) Tryz.func117 rfl rfl (zK 9 rfl (zY s 0 fT bZ rfl ?_))
 by_cases h0:l=0
 ·subst h0
  have I:1≤c.length∧1+c.getD 0 0≤c.length:=I
  have oX:c[0]?=some (c.getD 0 0):=by grind
  obtain⟨lz,bo,e3,e4⟩:=c7 hv oX
  have J:fN 0 c=(c.take (1+c.getD 0 0)).drop 1:=by rw[fN,aH rfl,kF,sD]
  generalize c.getD 0 0=z at I oX e3 e4 J
  have hz:z<256:=hv.1 z (aR oX)
  refine zC rfl cL (by simp) ?_
  refine zk 4 rfl ?_
  have z0:=s
  refine WP.drawn [af,af,af,af,af,af,af,af,af,af,af,af,af,af,af,af,af,af,af] rfl (by kernel_rfl) (by kernel_rfl) ?_
  refine zM rfl (zN rfl (zF rfl (eW _ _) (zL rfl (s.ld (k:=0) rfl je rfl) (zM rfl (zO rfl (bx (r:=.ptr id off) rfl rfl e1) (zL rfl e2 (zM rfl (zN rfl (zF rfl (eW _ _) (zL rfl (s.ld (k:=0) rfl je rfl) (zM rfl (zO rfl (bx (r:=.ptr id off) rfl rfl e1) (zL rfl e2 (zO rfl (bx (r:=.ptr lz bo) rfl rfl e3) (zL rfl e4 (zO rfl (az (r:=.int .u8 ((1+z:Nat):Int)) rfl rfl (by rw[show((1+z:Nat):Int)=1+(z:Int) by omega];exact aO (ru (by omega) (by omega)))) ?_))))))))))))))))
  refine zO rfl (bS (p:=some (.int .i64 1)) (q:=some (.int .u8 ((1+z:Nat):Int))) (m:=none) (p':=some 1) (q':=some (1+z)) (m':=none) rfl rfl rfl rfl (by rfl) (by rw[b9 (by omega)];rfl) rfl (fI hv (by omega) (by omega)).1) ?_
  refine zA rfl ?_
  refine aE.nil ⟨⟨aa,aa,aa,aa,aa,aa,aa,aa,aa,aa,aa,aa,aa,aa,aa,aa,aa,aa,aa,aa⟩,?_⟩
  refine WP.ret ⟨aa,_,rfl,?_⟩
  have s:=(s.ae [3]).dG (qL (a:=1) (b:=1+z) (by omega) (by omega))
  rw[←J] at s
  exact s
 ·have I:4≤c.length:=by rw[jl,ax h0] at I;exact I
  have J:fN l c=(c.take c.length).drop 4:=by rw[fN,ax h0,ja]
  refine zB rfl cL (by simp;omega) ?_
  refine zk 6 rfl (zY s 0 eW je rfl (zm rfl (zo rfl (bx (r:=.ptr id off) rfl rfl e1) (zl rfl e2 (zo rfl (bS (p:=some (.int .i64 4)) (q:=none) (m:=none) (p':=some 4) (q':=none) (m':=none) rfl rfl rfl rfl (by rfl) rfl rfl (gJ hv I).1) ?_)))))
  refine zk 2 rfl (WP.ret ⟨aa,_,rfl,?_⟩)
  have s:=(s.ae [3]).dG (qL (a:=4) (b:=c.length) I (aM _))
  rw[←J] at s
  exact s
end
def wyA (w:V)(c:List (Nat×Nat)): aI:=.xs fun o:Nat×Cap×Nat×List V=>.an (.ro o.1 (.cells o.2.2.1 o.2.2.2 false))
 (.pu (w=.sl o.1 0 c.length o.2.1∧o.2.2.2.length=o.2.2.1∧c.length*2≤o.2.2.1∧o.2.2.2.take (c.length*2)=iN c∧1≤c.length∧match o.2.1 with|.exact q=>c.length≤q|.rest z _=>z=2))
section
variable {c:List (Nat×Nat)} {b:Nat}
theorem U2 (hc:1≤c.length)(s:Sat h (.arr 2 w (iN c)::S)): Sat h (wyA w c::S) :=
 s.rz.dG fun m r h=>by
  obtain⟨_|⟨id,n,cap,N,rest⟩,h⟩:=h
  ·have:=dn List.length h.2.2
   rw[kg] at this
   simp at this
   omega
  ·obtain⟨h1,h2,h3,h4,I,h6,J⟩:=h
   rw[kg] at h4
   have:n=c.length:=by omega
   subst this
   refine⟨(id,cap,N,iN c++rest),h1,h3,by rw[aX];exact I,by rw[kg] at I;show c.length*2≤N;omega,by rw[←kg,gj rfl],hc,?_⟩
   cases cap with
   |exact q=>exact J.2
   |rest z alt=>exact J.1
theorem Bj (s:Sat h (wyA w c::S)): ∃id cap N row,w=.sl id 0 c.length cap∧row.length=N∧c.length*2≤N∧row.take (c.length*2)=iN c∧1≤c.length∧(match cap with|.exact q=>c.length≤q|.rest z _=>z=2)∧Sat h (ro id (.cells N row false)::S):=by
 obtain⟨o,s⟩:=iC.1 s
 obtain⟨_,_,_,_,_,q1,I,J,q4,q5,q6⟩:=s.at (k:=0) rfl
 exact⟨o.1,o.2.1,o.2.2.1,o.2.2.2,q1,I,J,q4,q5,q6,s.dG fun _ _ h=>h.1⟩
theorem DU (s:Sat h (wyA w c::S))(hu:P.underlying t=some (.slice e)): lenV P h t w=some (.int .i64 (c.length:Int)):=by
 obtain⟨id,cap,N,row,rfl,_⟩:=Bj s
 simp only[lenV,hu]
theorem LZ : ∀ {c:List (Nat×Nat)} {j:Nat},c[j]?=some (x,i)→((iN c).drop (j*2)).take 2=[.ptr x 0,.int .i64 (i:Int)]:=by
 intro c
 induction c with
 |nil=>simp
 |cons a t J =>
  intro j I
  cases j with
  |zero =>
   simp only[iW,aD] at I
   subst I
   rfl
  |succ j =>
   rw[show iN (a::t)=[.ptr a.1 0,.int .i64 (a.2:Int)]++iN t from rfl,show(j+1)*2=2+j*2 by omega,←sK]
   exact J I
theorem U3 (hu:P.underlying t=some (.slice e))(I:bg P e=some 2)(hj:c[j]?=some (x,i))(s:Sat h (wyA w c::S)):
  ∃id off,indexAddrV P t w (.int .i64 (j:Int))=some (.ptr id off)∧(∀t',isAggT P t'=some false→loadV P h t' (.ptr id off)=some (.ptr x 0))∧(isAggT P e=some true→loadV P h e (.ptr id off)=some (.agg [.ptr x 0,.int .i64 (i:Int)])):=by
 have Py:=(List.getElem?_eq_some_iff.1 hj).1
 obtain⟨id,cap,N,row,rfl,q1,q2,q3,q4,q5,s⟩:=Bj s
 have hr:=s.Yb (k:=0) rfl
 have hd:(row.drop (j*2)).take 2=[.ptr x 0,.int .i64 (i:Int)]:=by
  rw[←LZ hj,←q3,kF,qx,vC (by omega)]
 refine⟨id,j*2,?_,fun t' J=>yF J hr ?_,fun J => ?_⟩
 ·simp only[indexAddrV,hu,I,dm]
  rw[show(decide ((0:Int)≤(j:Int))&&decide ((j:Int)<(c.length:Int)))=true by simp;omega,ag,ep]
 ·rw[eX]
  have:=dn (fun l=>l[0]?) hd
  simpa[gh,eA] using this
 ·simp only[loadV,J,I]
  rw[og hr q1 (by omega),hd]
  rfl
def slHd (v:V)(b:Nat): V:=match v with
 |.sl id off _ (.exact q)=>.sl id off b (.exact q)
 |.sl id off _ (.rest _ alt)=>.sl id off b (.rest 2 alt)
 |v=>v
theorem Sat.Fv (s:Sat h S)(I:getA S j=some (wyA w c)): ∃id cap,w=.sl id 0 c.length cap∧1≤c.length∧match cap with|.exact q=>c.length≤q|.rest z _=>z=2:=by
 obtain⟨_,_,_,_,o,_,q1,q2,q3,q4,J,q6⟩:=s.at I
 exact⟨o.1,o.2.1,q1,J,q6⟩
theorem Sat.DV (s:Sat h S)(I:getA S j=some (wyA w c))(hu:P.underlying t=some (.slice e)): lenV P h t w=some (.int .i64 (c.length:Int)):=by
 obtain⟨id,cap,rfl,_⟩:=s.Fv I
 simp only[lenV,hu]
theorem Sat.DW (s:Sat h S)(hj:getA S j=some (wyA w c))(hu:P.underlying t=some (.slice e))(I:bg P e=some 2)(hb:b≤c.length): sliceV P h t w none (some b) none=some (slHd w b):=by
 obtain⟨id,cap,rfl,_,J⟩:=s.Fv hj
 cases cap with
 |exact q =>
  have J:c.length≤q:=J
  simp only[sliceV,hu,I,eo,cS]
  rw[show(Nat.ble 0 b&&Nat.ble b q)=true by simp;omega,ag,jY,dA,fR,fR]
  cases Nat.beq q 0<;>rfl
 |rest z alt =>
  have J:z=2:=J
  simp only[sliceV,hu,I,eo,cS]
  rw[show(Nat.beq z 2&&Nat.ble 1 2)=true by simp[J],ag,show(Nat.ble 0 b&&(Nat.ble b c.length||Nat.ble b (fC h id 0 2)))=true by simp;omega,ag]
  simp[slHd]
theorem ZC (h1:1≤b)(hb:b≤c.length)(s:Sat h (wyA w c::S)): Sat h (wyA (slHd w b) (c.take b)::S):=by
 obtain⟨id,cap,N,row,rfl,q1,q2,q3,q4,q5,s⟩:=Bj s
 have J:(c.take b).length=b:=by rw[cj];omega
 have ht:iN (c.take b)=(iN c).take (b*2):=by
  have:iN c=iN (c.take b)++iN (c.drop b):=by rw[←Jn,iY]
  rw[this,gj (by rw[kg,J])]
 have key:∀I,(match I with|.exact q=>b≤q|.rest z _=>z=2)→Sat h (wyA (.sl id 0 b I) (c.take b)::S):=fun I hc=>s.dG fun m r h=>by
  refine⟨(id,I,N,row),h,by rw[J],q1,by rw[J];show b*2≤N;omega,?_,by rw[J];exact h1,?_⟩
  ·rw[J,ht,←q3,qx,vC (by omega)]
  ·rw[J];exact hc
 cases cap with
 |exact q=>exact key (.exact q) (by have q5:c.length≤q:=q5;show b≤q;omega)
 |rest z alt=>exact key (.rest 2 alt) rfl
theorem Sat.aa3 (s:Sat h S)(I:getA S j=some (wyA w c)): w.beq w=true∧(slHd w b).beq (slHd w b)=true:=by
 obtain⟨id,cap,rfl,_⟩:=s.Fv I
 refine⟨wS _ _ _ _,?_⟩
 cases cap<;>exact wS _ _ _ _
end
theorem NH : iL (List.replicate 512 0)=0:=by rw[iL,aH rfl]
def fresh (n m f:Nat): bw:=(Pl.fresh f,(Lg.fresh,Dk.fresh n m))
theorem Jr {m:Nat}(k:Int): (Dk.fresh n m).at k=List.replicate 512 0:=by
 rw[Dk.at,show lookL k (Dk.fresh n m).now=none from rfl]
 simp only[Dk.fresh]
 cases I:(List.replicate n (none:Option (List Nat)))[k.toNat]? with
 |none=>rfl
 |some o =>
  have:=vk (aR I)
  subst this
  rfl
theorem Gx {m f:Nat}(k:Int): pgA (fresh n m f) k=List.replicate 512 0:=by
 rw[nk (by rfl)]
 exact Jr k
theorem Js {f:Nat}{x:Fm}(h:(Pl.fresh f).ai[i]?=some x): x=eS:=vk (aR h)
theorem EI.fresh {m f:Nat}(hn:n≤65536)(hm:m≤16777216)(hf:1≤f)(Gj:f≤1024): EI n 1 (fresh n m f):=by
 have J:∀x∈(Pl.fresh f).ai,x=eS:=fun x I=>vk I
 have hlen:(Pl.fresh f).ai.length=f:=fc
 refine⟨⟨⟨⟨(show 0<(Pl.fresh f).ai.length by rw[hlen];omega),(show(Pl.fresh f).ai.length≤1024 by rw[hlen];exact Gj),fun e he=>(by cases he),fun x I=>by rw[J x I];decide,fun x I=>by rw[J x I];decide⟩,Lg.IK,?_⟩,fun x I=>by rw[J x I];rfl,⟨sL,fun k i hk=>(by cases hk)⟩⟩,⟨?_,sL,fun k i hk=>(by cases hk),fun i x I=>.inl (by rw[Js I];decide),fun k hk=>(by cases hk),sL⟩,⟨rfl,aM _,(show(1:Nat)+0≤1*1048600 by decide)⟩,?_⟩
 ·exact⟨(show(-1:Int)<4294967296 by decide),eN _,hm,fun e he=>(by cases he),fun i b hb=>(by have h1:some b=none:=vk (aR hb);cases h1),aM _,(show(List.replicate n (none:Option (List Nat))).length≤65536 by rw[fc];exact hn)⟩
 ·exact⟨rfl,(show(-1:Int)<0 by decide),fc,fun k hk=>(by cases hk),sL,fun k h0 h1=>by show iL ((Dk.fresh n m).at k)=0;rw[Jr];exact NH⟩
 ·have e:iT (Pl.fresh f).ai=0:=by
   rw[iT,List.count_eq_zero]
   intro hh
   obtain⟨x,I,hc⟩:=List.mem_map.1 hh
   rw[J x I] at hc
   cases hc
  show([]:List Wr).length+iT (Pl.fresh f).ai≤_
  rw[e];decide
theorem WH (h:n<128): (digits 9 n).length=1:=by
 grind[digits]
theorem L0 (h:n<16384): (digits 9 n).length≤2:=by
 grind[digits]
theorem Cj {c:eE}(I:c.bE.toNat<16384)(J:c.pos.toNat<16384)(h3:c.b.length<16384): (nh c).length≤7+c.b.length:=by
 grind[L0,nh]
theorem WJ {pg:Int}{now:List Nat}{l:List eE}(I:xQ pg was now i l)(hn:now.length=512)(hp:pg.toNat<16384): ∀j,(∀k,i≤k→k<j→was[k]?=now[k]?)→j≤520→(l.flatMap nh).length≤520-max i j:=by
 induction I with
 |done i h=>simp
 |skip i l h he I ih =>
  grind
 |take i e l h1 h2 h3 h4 I ih =>
  intro j hj hj2
  have tC:j≤i:=oK fun J=>h3 (hj i (aM _) J)
  have h5:=ih (e+8) h4 (by omega)
  have hl:((now.take e).drop i).length=e-i:=by grind
  have h6:=Cj (c:=⟨pg,i,false,(now.take e).drop i⟩) hp (by grind) (by grind)
  rw[fE,aX]
  simp only[hl] at h6
  omega
theorem WK {pg:Int}{now:List Nat}{c:List eE}(I:PR pg was now c)(J:now.length=512)(hp:pg.toNat<16384): (c.flatMap nh).length≤520:=by
 obtain⟨l,hl,rfl⟩:=I
 have:=WJ hl J hp 0 (fun k _ h=>absurd h (by omega)) (by omega)
 grind[Cj]
theorem kV.few {l:List Int}{e:Int}{cs:List eE}(J:kV now l ε e cs aj)(hn:NW N now): (∀n∈l,n.toNat<16384)→(cs.flatMap nh).length≤520*l.length:=by
 induction J with
 |nil ε=>simp
 |err n l ε e b aj J he=>simp
 |part n l ε was b aj c e cs I J hb xP hc ff ht ih =>
  intro hl
  have h1:=WK hc (iR (hn.look hb).1) (hl n bO)
  grind
 |whole n l ε was b aj e cs I J hb xP ht ih =>
  have q_:=iR (hn.look hb).1
  grind[Cj]
theorem Ck {e:Int}{cs:List eE}{kd:Int}(hr:kV now (fy now) ε e cs aj)(I:NW N now)(hL:now.length≤L)(hN:N≤16384)(ht:tx<16384): (fO kd tx 0 0 [] cs).length≤520*L+20:=by
 have h2:=L0 ht
 have h4:=WH (n:=([]:List Nat).length) (by decide)
 have h5:=Kp cs.length
 have h6:=hr.few I fun n hm=>by have:=I.keys n (rG.1 hm);omega
 have J:(fy now).length≤L:=by
  rw[fy,(gX _).length_eq,cq];exact hL
 have J:=Ar 520 J
 simp only[fO,aX,aZ,bI] at h4 ⊢
 omega
theorem xz (K M:Nat): mq fun x=>x.2.log.length=K∧x.2.room=M:=by
 refine⟨fun x n h => ?_,fun x n b h => ?_⟩
 ·unfold cr Dk.iE
  split
  ·exact h
  ·split
   ·exact h
   ·split
    ·exact h
    ·split<;>first|exact h|exact h
 ·unfold Dk.dI
  split
  ·exact h
  ·split
   ·exact h
   ·split<;>exact h
def uN (K M:Nat)(ε:bw): Prop:=ε.2.2.log.length≤K∧ε.2.2.room=M
theorem uN.sm {M:Nat}(h:uN K M ε)(hs:Sm N ε aj): uN K M aj:=by
 have:=hs.2.1 _ ((xz ε.2.2.log.length ε.2.2.room).abZ N) ⟨rfl,rfl⟩
 exact⟨by rw[this.1];exact h.1,by rw[this.2];exact h.2⟩
theorem rH.fits {M:Nat}{e:Int}{cl:Bool}(hr:rH ε now kd tx 0 0 [] 0 bf e cl aj)(J:EI N B ε)(hB:B≤1000)(hw:NW N now)(hL:now.length≤L)(hN:N≤2999)(hL2:L≤2000)(h1:1≤kd)(h2:kd≤7)(Iv:tx<16384)(hd:uN K M ε)(hf:K+520*L+28≤M):
  cl=true∧e=0∧uN (K+520*L+28) M aj:=by
 have CX:∀n∈fy now,0≤n∧n<N:=fun n hq=>hw.keys n (rG.1 hq)
 obtain⟨hK,hM⟩:=hd
 have NI:=J.done hB hw (by omega) (by omega) hr
 cases hr with
 |arg hh=>omega
 |dead _ _ _ hd=>omega
 |qo e c aj _ _ _ _ hc Du=>exact absurd (hc.ec J.ec J.ok CX).2.2 Du
 |app c I _ _ _ _ hc Du =>
  have Is:=Ck (kd:=kd) hc hw hL (by omega) Iv
  have adK:520*L+20≤1048576:=by omega
  have hP:=(xz ε.2.2.log.length ε.2.2.room).ch hc ⟨rfl,rfl⟩
  grind[lY,gN,w6]
 |put c I e rU _ _ _ _ hc ha hp =>
  rcases NI with⟨ff,_⟩|⟨_,he,_⟩
  ·grind
  ·refine⟨rfl,he,?_⟩
   have Is:=Ck (kd:=kd) hc hw hL (by omega) Iv
   have hP:=(xz ε.2.2.log.length ε.2.2.room).ch hc ⟨rfl,rfl⟩
   rcases lY I.2 kd tx 0 0 [] c with⟨e,he,xK,hq⟩|⟨_,hfu,hq⟩|⟨_,hb,Ht,dN,hfu,hq⟩
   ·grind
   ·grind
   ·rw[hq] at hp
    have jS:=(xz (ε.2.2.log.length+(gN I.2.1 kd tx 0 0 [] c).length) ε.2.2.room).pt hp ⟨by grind,hP.2⟩
    have h3:(gN I.2.1 kd tx 0 0 [] c).length≤520*L+28:=by rw[gN,w6];omega
    exact⟨by omega,by omega⟩
section
variable {x:V}
theorem L1 (s:Sat h S)(hu:P.underlying t=some (.slice e))(hz:zeroT P e=some z)(hk:bg P e=some 1)(hl:z.cells.length=1)(hx:x.cells=[x])(hy:y.cells=[y])(I:storable x=true)(J:storable y=true):
  ∃v h',buildSliceV P h t 2 [(0,x),(1,y)]=some (v,h')∧Sat h' (.arr 1 v [x,y]::S):=by
 refine⟨.sl h.next 0 2 (.exact 2),newRow h [x,y],?_,?_⟩
 ·obtain⟨z0,vN⟩:∃z0,z.cells=[z0]:=by
   match hq:z.cells with
   |[]=>rw[hq] at hl;cases hl
   |[z0]=>exact⟨z0,rfl⟩
   |_::_::_=>rw[hq] at hl;simp at hl
  simp only[buildSliceV,hu,hk,hz,vN]
  rw[show(Nat.beq [z0].length 1&&Nat.ble (2*1) 65536&&Nat.ble 1 1)=true by rfl,ag]
  have e1:repeatL [z0] 2=[z0,z0]:=by simp[repeatL]
  simp only[fillV,e1,hx,hy,aZ,bI]
  show cond ([x,y].all storable) (some (V.sl h.next 0 2 (Cap.exact 2),newRow h [x,y])) none=_
  simp only[kI,lM,I,J]
  rfl
 ·refine(s.new _).dG fun m r hm=>⟨by simp[I,J],.inr ⟨h.next,2,.exact 2,2,[],rfl,?_,rfl,rfl,rfl,rfl,aM _⟩⟩
  have hm:m h.next=some (.cells 2 [x,y] false):=hm
  rw[hm];rfl
theorem L2 {S:Prop}: bX (pu S) (b5 .aV []):=fun _ _ _=>.inl ⟨fun _ h=>(by cases h),.inl ⟨.inl rfl,rfl⟩⟩
end
theorem xA : buildV Tryz.prog 47 [(0,.int .i64 (kd:Int))]=some (.agg (nM (kd:Int) 0 0 0 .aV .aV)):=by rw[Sc];rfl
section
variable {told:cy} {M p:Nat} {v x op:V} {l:List Nat} {lk:Nat}
theorem dX.done (hw:NW N now)(hd:∀m,pgA aj m=match lookL m now with|some b=>dK b bf|none=>pgA ε m){i:Int}(I:dX (pgG now ε i) kd link extra cs): dX (pgA aj i) kd link extra cs:=by
 rw[hd]
 unfold pgG at I
 cases J:lookL i now with
 |none=>rw[J] at I;exact I
 |some b =>
  rw[J] at I
  obtain⟨k1,k2,_⟩:=zU (n:=bf) I.len
  exact I.tail k2 k1
theorem ir.done {M:List Nat}(hw:NW N now)(J:∀m,pgA aj m=match lookL m now with|some b=>dK b bf|none=>pgA ε m)(I:ir n R M (pgG now ε)): ir n R M (pgA aj):=by
 obtain⟨ex,h0⟩:=I.head
 obtain⟨kd,lk,qm,h1⟩:=I.marks
 exact⟨⟨ex,h0.done hw J⟩,I.rl,⟨kd,lk,qm,h1.done hw J⟩,I.ml,I.n1,I.n2,I.own,I.hi⟩
theorem QH (hT:W told)(lB:jG ε)(I:cR ε+65536≤268435456)(J:ε.2.1.b=ε.2.2.log)(fM:ε.2.1.base+ε.2.1.b.length+1048584≤1099511627776)(hNm:N≤65536)(hw:NW N now)(s:Sat h (GA g a p q r data bA now ε::S)):
  Call ⟨Tryz.prog,told⟩ 18 [.ptr g 0,.agg (nM (kd:Int) 0 0 0 .aV .aV)] h fun v h'=>∃(bf:Nat) (e:Int) (cl:Bool) (aj:bw),rH ε now kd 0 0 0 [] 0 bf e cl aj∧v=.aW [.int .u64 (bf:Int),.int .i64 e] ∧
   Sat h' (gO g a now cl::SA a p q r (cond cl .cU (.ptr g 0)) data bA aj::S):=by
 have s:=cG.1 s
 have s:Sat h (gO g a now false::fA a p q r (.ptr g 0) data bA::e_ r p q ε.1::cM q p ε.2.1::bM p ε.2.2::S):=s
 have s:=(s.fq (φ:=True) aa).kS (k:=4)
 refine(Wn (qq:=0) (data:=[]) hT (s.ae [2,2,2,2,2,1,0]) L2 rfl lB I (fun e he=>iR (hw.good e he).1) (by have:=hw.len;omega) (fun n hn=>by have:=hw.keys n hn;omega) (by decide) (by decide) (by decide) (eN _) J fM).mono ?_
 rintro v h ⟨bf,e,cl,aj,hr,rfl,s⟩
 have s:Sat h (gO g a now cl::fA a p q r (cond cl .cU (.ptr g 0)) data bA::e_ r p q aj.1::cM q p aj.2.1::bM p aj.2.2::pu True::S):=s
 have s2:Sat h (SA a p q r (cond cl .cU (.ptr g 0)) data bA aj::gO g a now cl::pu True::S):=cG.2 (s.ae [1,1,1,1,0])
 exact⟨bf,e,cl,aj,hr,rfl,(s2.ae [1]).del 2⟩
theorem Gy (hT:W told)(hB:B≤900)(I:EI N B ε)(hw:NW N now)(s:Sat h (GA g a p q r data bA now ε::S)):
  Call ⟨Tryz.prog,told⟩ 18 [.ptr g 0,.agg (nM (kd:Int) 0 0 0 .aV .aV)] h fun v h'=>∃(bf:Nat) (e:Int) (cl:Bool) (aj:bw),rH ε now kd 0 0 0 [] 0 bf e cl aj∧v=.aW [.int .u64 (bf:Int),.int .i64 e] ∧
   Sat h' (gO g a now cl::SA a p q r (cond cl .cU (.ptr g 0)) data bA aj::S):=by
 have J:=I.cR
 have fM:=I.el.size
 exact QH hT I.ok (by omega) I.el.log (by omega) I.many hw s
theorem Gz (hT:W told)(hB:B≤900)(I:EI N B ε)(hw:NW N now)(hL:now.length≤L)(hN:N≤2999)(hL2:L≤2000)(h1:1≤kd)(h2:kd≤7)(hd:uN K M ε)(hf:K+520*L+28≤M)(s:Sat h (GA g a p q r data bA now ε::S)):
  Call ⟨Tryz.prog,told⟩ 18 [.ptr g 0,.agg (nM (kd:Int) 0 0 0 .aV .aV)] h fun v h'=>∃(bf:Nat) (aj:bw),v=.aW [.int .u64 (bf:Int),.int .i64 0]∧EI N (B+2) aj∧(∀m,pgA aj m=match lookL m now with|some b=>dK b bf|none=>pgA ε m)∧uN (K+520*L+28) M aj ∧
   Sat h' (gO g a now true::SA a p q r .cU data bA aj::S)∧rH ε now kd 0 0 0 [] 0 bf 0 true aj:=by
 refine(Gy hT hB I hw s).mono ?_
 rintro v h ⟨bf,e,cl,aj,hr,rfl,s⟩
 obtain⟨rfl,rfl,J⟩:=hr.fits I (by omega) hw hL hN hL2 h1 h2 (by decide) hd hf
 rcases I.done (by omega) hw (by omega) (by omega) hr with⟨ff,_⟩|⟨_,_,BL,dW⟩
 ·cases ff
 ·exact⟨bf,aj,rfl,BL,dW,J,s,hr⟩
noncomputable def mdL : Code:=cE [1,1,1,0,1,0,0] ((Tryz.f98.body).getD .skip)
theorem QI (hT:W told)(dN:26+4*cs.length+tot cs≤512)(qp:us.length=cs.length): ∀(m i:Nat) (v:V) (b:List Nat) (h:H) (E:List (Nat×V)) (Q:Ex→List (Nat×V)→H→Prop),i+m=cs.length→dX b kd link extra (cs.take i) →
  Sat h (aQ v b::each (fun v c=>.bK v c) us cs::.arr 1 cv us::S)→Has E [(7,v),(22,cv),(23,.int .i64 (cs.length:Int)),(24,.int .i64 (i:Int))] →
  (∀v' b' E' h',dX b' kd link extra cs→Has E' [(7,v')]→Sat h' (aQ v' b'::each (fun v c=>.bK v c) us cs::.arr 1 cv us::S)→Q (.exit 0) E' h')→WP ⟨Tryz.prog,told⟩ 38 (.loop mdL) E h Q:=by
 intro m
 induction m with
 |zero =>
  intro i v b h E Q hi hp s hE hq
  refine WP.loop (WP.has hE (zg rfl (zC rfl aL (by simp;omega) ?_)))
  exact zk 3 rfl (WP.exit (hq v b _ _ (by rw[show cs.take i=cs from gd (by omega)] at hp;exact hp) ⟨rfl,aa⟩ s))
 |succ m ih =>
  intro i v b h E Q hi hp s hE hq
  have I:cs[i]?=some (cs[i]'(by omega)):=aG _
  generalize (cs[i]'(by omega))=c at I
  obtain⟨u,hu,s⟩:=Li (fun _ _=>aJ.bK _ _) (s.ae [1]) I
  dsimp only[aT,bringA] at s
  obtain⟨id,off,e1,e2⟩:=jg (P:=Tryz.prog) s (k:=3) (i:=i) (c:=u) rfl hu bh eZ
  have IS:=gU I
  have Gb:=jP (cs:=cs) (i:=i+1)
  have hlen:(cs.take i).length=i:=by rw[cj];omega
  have qi:cs.take (i+1)=cs.take i++[c]:=by rw[mI,I];rfl
  refine WP.loop (WP.has hE (zg rfl (zB rfl aL (by simp;omega) ?_)))
  refine zk 5 rfl (WP.block (zK 3 rfl (zo rfl (bx (r:=.ptr id off) rfl rfl e1) (zl rfl (e2 _ ah) (zk 7 rfl ?_)))))
  have J:=LG (told:=told) hT (s.ae [2,0]) (aK _ _) (aY _ _) hp (by rw[hlen];omega)
  rw[hlen] at J
  refine zc rfl (J) ?_
  rintro r h ⟨u',b',rfl,q_,s⟩
  rw[←qi] at q_
  refine zk 4 rfl (zv (zr rfl (zb rfl (by exact aO (ay (by omega) (by omega))) ?_)))
  refine zm rfl (zv ?_)
  exact ih (i+1) u' b' _ _ Q (by omega) q_ (((s.ae [0,2,2]).del 4).del 3) ⟨rfl,rfl,rfl,rfl,aa⟩ hq
theorem L3 (hT:W told)(DC:kd≤255)(IV:lk<4294967296)(I:26+4*cs.length+tot cs≤512)(J:us.length=cs.length)(s:Sat h (each (fun v c=>.bK v c) us cs::.arr 1 cv us::S)):
  Call ⟨Tryz.prog,told⟩ 98 [.int .i64 (kd:Int),.int .i64 (lk:Int),cv] h fun r h'=>∃b',dX b' kd lk 0 cs∧Sat h' (aQ r b'::S):=by
 refine Call.of_wp (hT.free _ rfl) Tryz.func98 rfl rfl (zK 7 rfl (zc rfl (IU (kd:=kd) hT s DC) ?_))
 rintro r h ⟨u,b,rfl,hb,s⟩
 refine zk 10 rfl (zc rfl (LF (lk:=lk) (ex:=0) hT s (aK _ _) hb IV (by decide)) ?_)
 rintro r h ⟨u2,b2,rfl,nX,s⟩
 refine zk 9 rfl (zo rfl (aC rfl rfl rfl (s.eY (n:=cs.length) (j:=3) rfl (by rw[J,cz]) (by decide) bh)) ?_)
 refine zk 2 rfl (WP.block ?_)
 refine QI hT I J cs.length 0 u2 b2 _ _ _ (by omega) nX (s.ae [0,1,1]) ⟨rfl,rfl,rfl,rfl,aa⟩ (fun v' b' E' h' rJ hE s' => ?_)
 have s:=s'
 exact WP.has hE (zK 5 rfl (WP.ret ⟨aa,_,rfl,b',rJ,((s.del 3).del 2).del 1⟩))
theorem NJ (J:W told)(s:Sat h (X::S))(hX:bX X (b5 v b))(hl:b.length=512)(hg:b7 b=false): Call ⟨Tryz.prog,told⟩ 160 [v] h fun r h'=>r=.aW [.aV,.int .i64 4]∧Sat h' (X::S):=by
 refine Call.of_wp (J.free _ rfl) ID rfl rfl (zK 8 rfl (zc rfl (rE J s hX (by omega)) ?_))
 rintro r h' ⟨s,(⟨I,rfl⟩|⟨_,rfl⟩)⟩
 ·rw[hg] at I;cases I
 refine zk 3 rfl ?_
 refine aA.cB s rfl rfl rfl (cF iJ) (fun p4 h s => ?_)
 refine zS rfl (s.iK (j:=0) rfl aU rfl rfl) (fun h s => ?_)
 refine zk 6 rfl (zB rfl aN (by decide) ?_)
 exact zk 8 rfl (WP.ret ⟨aa,_,rfl,rfl,s.drop⟩)
theorem QJ (hT:W told)(hR:kf told N B rv A pg)(J:EI N B ε)(hN:1≤N)(hl:(pg ε 0).length=512)(hg:b7 (pg ε 0)=false)(s:Sat h (A ε::S)):
  Call ⟨Tryz.prog,told⟩ 163 [rv] h fun v h'=>∃aj,v=.aW [.aV,.int .i64 0,.bool false,.int .i64 0]∧EI N B aj∧Sm N ε aj∧Sat h' (A aj::S):=by
 obtain⟨ty,u,f,rfl,hm,jK⟩:=hR.iface
 refine Call.of_wp (hT.free _ rfl) Tryz.func163 rfl rfl (zK 10 rfl (aA.any rfl rfl rfl (OpR.invoke rfl rfl rfl hm rfl (jK J (by decide) (by omega) s)) ?_))
 rintro v h ⟨u,aj,rfl,I,hs,s⟩
 refine zk 10 rfl (zC rfl aN (rfl) (zk 6 rfl (zc rfl (NJ hT s (aK _ _) hl hg) ?_)))
 rintro v h ⟨rfl,s⟩
 refine zk 8 rfl (WP.drawn [af,af,af,af,af,af,af,af,some (0,2),some (0,2),some (0,2),af,af,af,af,af,af,af,af,af,af,af] rfl (by kernel_rfl) (by kernel_rfl) ?_)
 refine zM rfl (aE.vV rfl rfl rfl rfl (az rfl rfl aN) (by decide) ?_)
 refine zM rfl (aE.no (e:=false) rfl rfl rfl rfl (aE.no (e:=false) rfl rfl rfl rfl (aE.no (e:=false) rfl rfl rfl rfl (zO rfl (mN rfl rfl) (zM rfl (aE.no (e:=false) rfl rfl rfl rfl (aE.no (e:=false) rfl rfl rfl rfl (aE.no (e:=false) rfl rfl rfl rfl (aE.no (e:=true) rfl rfl rfl rfl (aE.no (e:=true) rfl rfl rfl rfl (aE.no (e:=false) rfl rfl rfl rfl (zO rfl (mN rfl rfl) (zM rfl (aE.no (e:=false) rfl rfl rfl rfl (aE.no (e:=false) rfl rfl rfl rfl (aE.no (e:=false) rfl rfl rfl rfl (aE.no (e:=false) rfl rfl rfl rfl (aE.no (e:=false) rfl rfl rfl rfl (zO rfl (mN rfl rfl) ?_)))))))))))))))))))
 refine aE.nil ⟨⟨aa,aa,aa,aa,aa,aa,aa,aa,fun _ _=>.inl rfl,fun _ _=>.inl rfl,fun _ _=>.inl rfl,aa,aa,aa,aa,aa,aa,aa,aa,aa,aa,aa,aa⟩,?_⟩
 exact zK 8 rfl (WP.ret ⟨aa,_,rfl,aj,rfl,I,hs,s.drop⟩)
theorem GS (hT:W told)(hR:kf told N B rv A pg)(J:EI N B ε)(hN:1≤N)(hl:(pg ε 0).length=512)(hg:b7 (pg ε 0)=false)(s:Sat h (A ε::S)):
  Call ⟨Tryz.prog,told⟩ 95 [rv] h fun v h'=>∃aj,v=.aW [.bool false,.int .i64 0]∧EI N B aj∧Sm N ε aj∧Sat h' (A aj::S):=by
 refine Call.of_wp (hT.free _ rfl) Tryz.func95 rfl rfl (zK 8 rfl (zc rfl (QJ hT hR J hN hl hg s) ?_))
 rintro v h ⟨aj,rfl,I,hs,s⟩
 exact zk 17 rfl (WP.ret ⟨aa,_,rfl,aj,rfl,I,hs,s⟩)
end
def xV : List Nat:=((List.replicate 375 0).set 0 1).set 0 3
theorem QK : bt xV j=decide (j<2):=by
 unfold bt xV
 by_cases h:j/8=0
 ·have e:(((List.replicate 375 0).set 0 1).set 0 3).getD (j/8) 0=3:=by rw[h];decide +kernel
  have k:∀i,i<8→(3:Nat).testBit i=decide (i<2):=by decide
  rw[e,k _ (by omega)]
  by_cases I:j<2
  ·rw[dy I,dy (by omega)]
  ·rw[eM I,eM (by omega)]
 ·have e:(((List.replicate 375 0).set 0 1).set 0 3).getD (j/8) 0=0:=by
   rw[qv,kE (by omega),kE (by omega),List.getElem?_replicate]
   split<;>rfl
  rw[e,Nat.zero_testBit,eM (by omega)]
def GDn (N B kd:Nat)(ε aj:bw): Prop:=∃(I:bw) (now:List (Int×List Nat)) (bf:Nat),EI N B I∧Sm N ε I∧NW N now∧(∀i:Int,2≤i→lookL i now=none)∧rH I now kd 0 0 0 [] 0 bf 0 true aj
section
variable {told:cy} {M p:Nat}
theorem QL (hB:B≤800)(dL:EI N B ε)(hN:4≤N)(UQ:N≤2999)(hz:(pgA ε 0).length=512)(hg:b7 (pgA ε 0)=false)(hd:uN K M ε)(hf:K+1068≤M)(s:Sat h (SA a p q r .cU data bA ε::S)):
  ∃v h2,(∃N0,∀n,N0≤n→toldDefer CB n 32 [.ptr a 0] h=some (v,h2))∧(v=.int .i64 0∧∃aj,EI N (B+2) aj∧ir N (List.replicate 64 0) xV (pgA aj)∧uN (K+1068) M aj∧Sat h2 (SA a p q r .cU data bA aj::S)∧GDn N B 1 ε aj):=by
 have I:=W.base
 refine toldDefer_do (C:=CB) I9 rfl rfl (of_decide_eq_true (by kernel_rfl)) ?_
 refine WPd.seq (WPd.of_wp rfl (zr rfl (za rfl (zv (WPd.seq (WPd.of_wp rfl (zr rfl (zm rfl (zo rfl (qR rfl (mki_of zI rfl)) (zc rfl (GS I (Zl I (by omega)) dL (by omega) hz hg s) ?_))))))))))
 rintro v h ⟨mw,rfl,ow,f_,s⟩
 have hd:=hd.sm f_
 have s:Sat h (fA a p q r .cU data bA::e_ r p q mw.1::cM q p mw.2.1::bM p mw.2.2::S):=cG.1 s
 refine zk 5 rfl (zv (WPd.seq (WPd.of_wp rfl (WP.block (zg rfl (zm rfl (zh rfl (az rfl rfl aN) (rfl) (za rfl (zv (zj rfl (zg rfl (zk 2 rfl (zv (zj rfl (WP.skip (WPd.seq (WPd.of_wp rfl (zr rfl (zm rfl (zc rfl (S3 I s) ?_))))))))))))))))))))
 rintro v h' ⟨rfl,rfl⟩
 refine zc rfl (B5 I (s.ae [3])) ?_
 rintro v h' ⟨rfl,rfl⟩
 rw[ow.ec.dk.bD]
 refine za rfl (zv (WPd.seq (WPd.of_wp rfl (zr rfl (zm rfl (zc rfl (DL I (n:=N) (by omega) (by omega)) ?_))))))
 rintro v h' ⟨rfl,rfl⟩
 refine za rfl (zv (WPd.seq (WPd.of_wp rfl (zr rfl (zm rfl (zc rfl (Ge I s) ?_))))))
 rintro v h ⟨g,rfl,s⟩
 refine zk 5 rfl (zv (WPd.seq (WPd.seq (WPd.of_wp rfl (zr rfl (zm rfl (zh rfl (az rfl rfl aN) (rfl) (zv (WPd.of_wp rfl (zj rfl (WP.skip (WPd.seq (WPd.defer rfl rfl rfl rfl rfl rfl rfl rfl rfl rfl rfl rfl (WPd.seq (WPd.seq (WPd.of_wp rfl (zr rfl (zk 2 rfl (zb rfl (by exact aO (ay (by omega) (by omega))) ?_)))))))))))))))))))
 refine zC rfl aL (by simp;omega) ?_
 have s:Sat h (GA g a p q r data bA [] mw::S):=cG.2 s
 refine zv (WPd.of_wp rfl (zj rfl (WP.skip (WPd.seq (WPd.seq (WPd.of_wp rfl (WP.drawn [some (0,5),some (0,4),af,af,af,af,af,af] rfl (by kernel_rfl) (by kernel_rfl) ?_)))))))
 refine zM rfl (zM rfl (aE.any rfl rfl rfl rfl (OpR.call rfl rfl rfl rfl (Ja I s)) ?_))
 intro mv h s
 refine aE.any rfl rfl rfl rfl (OpR.G6 rfl s rfl rfl rfl rfl (by decide)) ?_
 intro zbv h s
 have s:=s.fD
 have U4:(List.replicate 64 0).length=64:=fc
 have hm:=(s.aq (k:=1) rfl (aY _ _)).cells
 have hzc:=(s.aq (k:=0) rfl (aY _ _)).cells
 obtain⟨cv,h1,e1,s1⟩:=L1 (P:=Tryz.prog) (x:=mv) (y:=zbv) s bh k8 eZ rfl hm.1 hzc.1 hm.2 hzc.2
 refine aE.any rfl rfl rfl rfl (OpR.of (R:=fun v h'=>v=cv∧h'=h1) (gI rfl e1) ⟨rfl,rfl⟩) ?_
 rintro cv h ⟨rfl,rfl⟩
 have s:=(s1.ae [2,1]).two (C:=each (fun v c=>.bK v c) [mv,zbv] [ij,List.replicate 64 0]) (aJ.bK _ _) (aJ.bK _ _) fun a b q1 q2=>⟨q1,q2,aa⟩
 generalize hR:List.replicate 64 0=R at s U4
 refine aE.any rfl rfl rfl rfl (OpR.call rfl rfl rfl rfl (L3 (kd:=201) (lk:=N) I (by decide) (by omega) (by simp only[tot,ij,aZ,bI,U4];decide) rfl s)) ?_
 rintro u h ⟨b0,oX,s⟩
 refine aE.any rfl rfl rfl rfl (OpR.call rfl rfl rfl rfl (Nz (i:=0) I (by omega) ow (NW.nil N) (by omega) (s.ae [1,0]) (aK _ _) oX)) ?_
 rintro v h ⟨lZ,rfl,qu,l7,UY,s⟩
 have hd:=hd.sm l7
 refine zA rfl ?_
 refine aE.nil ⟨⟨fun _ _=>.inr ⟨rfl,⟨_,bV rfl⟩,bj _ rfl⟩,fun _ _=>.inr ⟨rfl,⟨_,bV rfl⟩,bj _ rfl⟩,aa,aa,aa,aa,aa,aa,aa⟩,?_⟩
 refine WPd.seq (WPd.of_wp rfl (zr rfl (zm rfl (zh rfl (az rfl rfl aN) (rfl) (zv (WPd.of_wp rfl (zj rfl (WP.skip (WPd.seq (WPd.seq (WPd.of_wp rfl (zr rfl (za rfl (zv (WPd.of_wp rfl (WP.block (WP.loop (zw (zg rfl (zk 2 rfl (zt rfl (az rfl rfl aL) (by decide) ?_)))))))))))))))))))))
 refine zv (zi rfl (WP.skip (zw (WP.block (zg rfl (aA.any rfl rfl rfl (OpR.G6 rfl s rfl rfl rfl rfl (by decide)) ?_))))))
 intro mk h s
 have J:(List.replicate 375 0).length=375:=fc
 have vN:(List.replicate 375 0)[0]?=some 0:=by decide +kernel
 have IA:xV.length=375:=by unfold xV;rw[bT,bT,J]
 have QM:xV=((List.replicate 375 0).set 0 1).set 0 3:=rfl
 have DO:∀j,bt xV j=decide (j<2):=fun j=>QK
 generalize xV=M0 at IA QM DO ⊢
 generalize List.replicate 375 0=Z at s J vN QM
 obtain⟨id,off,e2,e3⟩:=c7 (s.buf (k:=0) rfl).view vN
 obtain⟨uL,vg,e4,h4,e5,s2⟩:=gD s (i:=0) (b:=1) (by omega) (by decide)
 have ee:V.ptr id off=V.ptr uL vg:=by rw[e2] at e4;exact bp e4
 rw[←ee] at e5
 refine zk 8 rfl (WP.block (WP.loop (zg rfl (zB rfl aL (by decide) ?_))))
 refine zk 5 rfl (WP.block (zK 8 rfl (zo rfl (az (r:=.int .i64 0) rfl rfl (by kernel_rfl)) ?_)))
 refine zm rfl (zb rfl (by exact ei (ay (by omega) (by omega))) ?_)
 refine zB rfl ej (by decide) ?_
 refine zk 2 rfl (WP.drawn [af,af,af,af,af,af,af,af,af,af,af,af] rfl (by kernel_rfl) (by kernel_rfl) ?_)
 refine zM rfl (zM rfl (zO rfl (az (r:=.int .i64 0) rfl rfl (by kernel_rfl)) ?_))
 refine zO rfl (az (r:=.int .i64 0) rfl rfl (by kernel_rfl)) ?_
 refine zO rfl (bx (r:=.ptr id off) rfl rfl e2) (zL rfl e3 (zM rfl (zO rfl (az (r:=.int .i64 0) rfl rfl (by kernel_rfl)) ?_)))
 refine zO rfl (az (r:=.int .u8 1) rfl rfl (by kernel_rfl)) ?_
 refine zO rfl (az (r:=.int .u8 1) rfl rfl (by kernel_rfl)) ?_
 refine zO rfl (bx (r:=.ptr id off) rfl rfl e2) (aE.mS rfl rfl rfl (OpR.F6 rfl rfl rfl (⟨h4,e5,s2⟩)) ?_)
 rintro w h ⟨rfl,s⟩
 refine aE.nil ⟨⟨aa,aa,aa,aa,aa,aa,aa,aa,aa,aa,aa,aa,aa⟩,?_⟩
 have Bt:(Z.set 0 1)[0]?=some 1:=iX (by omega)
 have yX:(Z.set 0 1).length=375:=by rw[bT,J]
 obtain⟨ZD,TA,e6,e7⟩:=c7 (s.buf (k:=0) rfl).view Bt
 obtain⟨id6,acf,e8,h7,e9,s3⟩:=gD s (i:=0) (b:=3) (by omega) (by decide)
 have ee:V.ptr ZD TA=V.ptr id6 acf:=by rw[e6] at e8;exact bp e8
 rw[←ee] at e9
 refine zr rfl (zb rfl (by exact aO (ay (by omega) (by omega))) ?_)
 refine zm rfl (zv (WP.loop (zg rfl (zt rfl (az rfl rfl aL) (by decide) ?_))))
 refine zk 5 rfl (WP.block (zK 8 rfl (zo rfl (az (r:=.int .i64 0) rfl rfl (by kernel_rfl)) ?_)))
 refine zm rfl (zb rfl (by exact ei (ay (by omega) (by omega))) ?_)
 refine zB rfl ej (by decide) ?_
 refine zk 2 rfl (WP.drawn [af,af,af,af,af,af,af,af,af,af,af,af] rfl (by kernel_rfl) (by kernel_rfl) ?_)
 refine zM rfl (zM rfl (zO rfl (az (r:=.int .i64 1) rfl rfl (by kernel_rfl)) ?_))
 refine zO rfl (az (r:=.int .i64 0) rfl rfl (by kernel_rfl)) ?_
 refine zO rfl (bx (r:=.ptr ZD TA) rfl rfl e6) (zL rfl e7 (zM rfl (zO rfl (az (r:=.int .i64 1) rfl rfl (by kernel_rfl)) ?_)))
 refine zO rfl (az (r:=.int .u8 2) rfl rfl (by kernel_rfl)) ?_
 refine zO rfl (az (r:=.int .u8 3) rfl rfl (by kernel_rfl)) ?_
 refine zO rfl (bx (r:=.ptr ZD TA) rfl rfl e6) (aE.mS rfl rfl rfl (OpR.F6 rfl rfl rfl (⟨h7,e9,s3⟩)) ?_)
 rintro w h ⟨rfl,s⟩
 refine aE.nil ⟨⟨aa,aa,aa,aa,aa,aa,aa,aa,aa,aa,aa,aa,aa⟩,?_⟩
 rw[←QM] at s
 refine zr rfl (zb rfl (by exact aO (ay (by omega) (by omega))) ?_)
 refine zm rfl (zv (WP.loop (zg rfl (zh rfl (az rfl rfl aL) (by decide) ?_))))
 refine zk 3 rfl (WP.exit (zK 5 rfl ?_))
 have s:=s.fD
 have tU:=(s.aq (k:=0) rfl (aY _ _)).cells
 obtain⟨Gt,h8,Yf,s4⟩:=jB (P:=Tryz.prog) (k:=1) (x:=mk) s bh k8 eZ rfl (by decide) (by decide) (by rw[tU.1];rfl) (by rw[tU.1];simp only[kI,lM,tU.2];rfl)
 rw[tU.1] at s4
 refine aA.any rfl rfl rfl (OpR.of (R:=fun v h'=>v=Gt∧h'=h8) (gI rfl Yf) ⟨rfl,rfl⟩) ?_
 rintro Gt h ⟨rfl,rfl⟩
 have s:=(s4.ae [1]).dG (B:=each (fun v c=>.bK v c) [mk] [M0]) fun a b q=>⟨q,aa⟩
 dsimp only[aT,bringA] at s
 refine zc rfl (L3 (kd:=202) (lk:=0) I (by decide) (by decide) (by simp only[tot,aZ,bI,IA];decide) rfl s) ?_
 rintro u h ⟨b1,m6,s⟩
 refine zc rfl (Nz (i:=1) I (by omega) qu UY (by omega) (s.ae [1,0]) (aK _ _) m6) ?_
 rintro v h ⟨rU,rfl,BR,r7,DP,s⟩
 dsimp only[aT,bringA] at s
 have hd:=hd.sm r7
 refine za rfl (zv (zg rfl (zm rfl (zh rfl (az rfl rfl aN) (rfl) (zv (zj rfl (WP.skip (zr rfl (zm rfl (zb rfl (by exact aO (ay (by omega) (by omega))) ?_))))))))))
 refine zk 2 rfl (WP.loop (zK 5 rfl (zC rfl aL (by decide) ?_)))
 refine zk 2 rfl (WP.exit (WPd.seq (WPd.of_wp rfl (zK 2 rfl (zo rfl (cP rfl (xA (kd:=1))) (zc rfl (Gz (kd:=1) (L:=2) I (by omega) BR DP (cX qM (Nat.succ_le_succ qM)) (by omega) (by decide) (by decide) (by decide) hd hf s) ?_))))))
 rintro v h ⟨bf,t_,rfl,ZE,dW,Y0,s,LM⟩
 have jW:ir N R M0 (pgG (cY ((1:Nat):Int) b1 (cY ((0:Nat):Int) b0 [])) rU):=by
  refine⟨⟨0,?_⟩,U4,⟨202,0,0,?_⟩,IA,by omega,by omega,fun j hj=>by rw[DO,dy hj],fun j hj=>by rw[DO,eM (by omega)]⟩
  ·rw[fU,ax (by decide),fU,aH (by decide)];exact oX
  ·rw[fU,aH (by decide)];exact m6
 refine zk 4 rfl (zv (WPd.seq (WPd.of_wp rfl (zr rfl (zk 2 rfl (zv (WPd.of_wp rfl (WP.ret ?_))))))))
 have s:=s.ae [1]
 have s:=cG.1 s
 have s:=s.ae [4]
 obtain⟨v2,h2,OZ,rfl,s⟩:=Nf I s
 have s:=s.ae [1,1,1,1]
 have s:Sat h2 (SA a p q r .cU data bA t_::_):=cG.2 s
 have YW:qW 20=none:=I.free _ rfl
 exact⟨aa,h2,_,Ks (C:=CB) YW Tryz.func20 rfl rfl OZ,EP rfl,rfl,t_,ZE,jW.done DP dW,Y0,((s.del 3).del 2).del 1,rU,_,bf,BR,(f_.trans l7).trans r7,DP,fun i hi=>by rw[kT,ax (by omega),kT,ax (by omega)];rfl,LM⟩
end
section
variable {told:cy} {v x:V} {l:List Nat}
def wB (f:Nat→Bool)(k:Nat): List Nat:=(List.range k).filter f
theorem Jt {f:Nat→Bool}: wB f (k+1)=if f k then wB f k++[k] else wB f k:=by
 grind[wB,List.range_succ]
theorem Fw {f:Nat→Bool}: (wB f k).length≤k:=by
 grind[wB]
theorem Cl (s:Sat h (.arr 1 v (cf l)::S))(hl:l.length≤1048576):
  ∃I J w h2,buildSliceV Tryz.prog h 25 1 [(0,.int .i64 (k:Int))]=some (I,J)∧appendV Tryz.prog J #[25,25] v I=some (w,h2)∧Sat h2 (.arr 1 w (cf (l++[k]))::S):=by
 obtain⟨I,J,e1,s1⟩:=jB (P:=Tryz.prog) (k:=1) (x:=.int .i64 (k:Int)) s cC yL jO rfl (by decide) (by decide) rfl rfl
 obtain⟨i1,eT,gC,om⟩:=w8
 obtain⟨w,h2,e2,s2⟩:=gK (s1.ae [1,0]) cC eT yL gC (by omega) rfl (by decide) (by simp only[iD,V.cells,aZ,bI];omega)
 refine⟨I,J,w,h2,e1,e2,?_⟩
 have e:cf (l++[k])=cf l++[.int .i64 (k:Int)]:=by simp[cf]
 rw[e]
 exact s2.del 1
noncomputable def usL : Code:=cE [1,1,1,1,0,1,0,0,1,1,0,0,1,1,1,1,0,0] ((Tryz.f28.body).getD .skip)
theorem QN (hT:W told)(qp:M.length=375)(hn:n≤3000): ∀(m k:Nat) (v:V) (h:H) (E:List (Nat×V)) (Q:Ex→List (Nat×V)→H→Prop),k+m=n →
  Sat h (.arr 1 v (cf (wB (bt M) k))::aQ u M::S)→Has E [(7,v),(8,.int .i64 0),(10,u),(24,.int .i64 1),(25,.int .i64 0),(42,.int .i64 (n:Int)),(43,.int .i64 (k:Int))] →
  (∀v' E' h',Has E' [(7,v'),(24,.int .i64 1),(25,.int .i64 0)]→Sat h' (.arr 1 v' (cf (wB (bt M) n))::aQ u M::S)→Q (.exit 2) E' h')→WP ⟨Tryz.prog,told⟩ 70 (.loop usL) E h Q:=by
 intro m
 induction m with
 |zero =>
  intro k v h E Q hk s hE hq
  refine WP.loop (WP.has hE (zg rfl (zC rfl aL (by simp;omega) ?_)))
  refine zk 3 rfl (WP.exit ?_)
  obtain rfl:k=n:=by omega
  exact hq v _ _ ⟨rfl,rfl,rfl,aa⟩ s
 |succ m ih =>
  intro k v h E Q hk s hE hq
  have hb:M[k/8]?=some (M[k/8]'(by omega)):=aG _
  have J:M.getD (k/8) 0=M[k/8]'(by omega):=by rw[qv,hb];rfl
  generalize (M[k/8]'(by omega))=x at hb J
  have hv:=(s.buf (k:=1) rfl).view
  have hx:x<256:=hv.1 x (aR hb)
  have DO:x.testBit (k%8)=bt M k:=by rw[bt,J]
  obtain⟨id,off,e1,e2⟩:=c7 hv hb
  have Lf:x/2^(k%8)<256:=Nat.lt_of_le_of_lt (Nat.div_le_self _ _) hx
  have qp:=Fw (f:=bt M) (k:=k)
  refine WP.loop (WP.has hE (zg rfl (zB rfl aL (by simp;omega) ?_)))
  refine zk 5 rfl (WP.block (zK 9 rfl (zb rfl (Bg (a:=k) (b:=8) (by decide) (by omega)) ?_)))
  refine zo rfl (bx (r:=.ptr id off) rfl rfl e1) (zl rfl e2 (zm rfl (zb rfl (Nc (a:=k) (b:=8) (by decide)) ?_)))
  refine zb rfl (Zd (a:=x) (k:=k%8) (by omega)) ?_
  refine zb rfl (Zf (b:=1) Lf (by decide)) ?_
  cases I:bt M k with
  |true =>
   refine zB rfl Qt (DO.trans I) (zk 5 rfl (zb rfl (by exact jq (ay (by omega) (by omega))) ?_))
   refine zm rfl (zb rfl (by exact aO (ay (by omega) (by omega))) ?_)
   obtain⟨iv,h1,w,h2,e3,e4,s2⟩:=Cl (k:=k) s (by omega)
   have ek:(3000:Int)*0+(k:Int)=(k:Int):=by omega
   rw[ek]
   refine aA.any rfl rfl rfl (OpR.of (R:=fun v h'=>v=iv∧h'=h1) (gI rfl e3) ⟨rfl,rfl⟩) ?_
   rintro iv h1 ⟨rfl,rfl⟩
   refine aA.any rfl rfl rfl (OpR.of (R:=fun v h'=>v=w∧h'=h2) (iG rfl rfl e4) ⟨rfl,rfl⟩) ?_
   rintro w h2 ⟨rfl,rfl⟩
   refine za rfl (zv (zr rfl (zb rfl (by exact aO (ay (by omega) (by omega))) ?_)))
   refine zm rfl (zv ?_)
   exact ih (k+1) _ _ _ Q (by omega) (by rw[Jt,I,aH rfl];exact s2) ⟨rfl,rfl,rfl,rfl,rfl,rfl,rfl,aa⟩ hq
  |false =>
   refine zh rfl (az rfl rfl Qt) (DO.trans I) (zv (zj rfl (WP.skip (zr rfl (zb rfl (by exact aO (ay (by omega) (by omega))) ?_)))))
   refine zm rfl (zv ?_)
   exact ih (k+1) _ _ _ Q (by omega) (by rw[Jt,I,ax (by decide)];exact s) ⟨rfl,rfl,rfl,rfl,rfl,rfl,rfl,aa⟩ hq
theorem TB (hT:W told)(hR:kf told N B rv A pg)(dL:EI N B ε)(hN:2≤N)(J:ir n R M (pg ε))(s:Sat h (A ε::S)):
  Call ⟨Tryz.prog,told⟩ 28 [rv] h fun v h'=>∃w aj,v=.aW [w,.int .i64 0]∧EI N B aj∧Sm N ε aj∧Sat h' (.arr 1 w (cf (wB (bt M) n))::A aj::S):=by
 obtain⟨ex,ug⟩:=J.head
 obtain⟨kd,lk,qm,I⟩:=J.marks
 have hM:=J.ml
 have tJ:=J.n2
 have BG:=J.n1
 have qp:=Fw (f:=bt M) (k:=n)
 refine Call.of_wp (hT.free _ rfl) Tryz.func28 rfl rfl (zK 8 rfl (zc rfl (Wx hT hR dL (by omega) ug J.rl s) ?_))
 rintro v h ⟨u,mw,rfl,ow,f_,s⟩
 refine zk 12 rfl (zC rfl aN (rfl) (zk 11 rfl (zc rfl (DL hT (by omega) (by omega)) ?_)))
 rintro v h' ⟨rfl,rfl⟩
 refine zb rfl (by exact ei (ay (by omega) (by omega))) ?_
 refine zk 2 rfl (WP.block (WP.loop (zg rfl (zB rfl aL (by decide) ?_))))
 have I:dX (pg mw 1) kd lk qm [M]:=by rw[hR.same f_];exact I
 refine zk 5 rfl (WP.block (zK 9 rfl (zc rfl (Ti hT hR ow hN I hM (s.ae [1])) ?_)))
 rintro v h ⟨w2,u2,lZ,rfl,qu,l7,s⟩
 refine zk 12 rfl (zC rfl aN (rfl) (zk 7 rfl (zb rfl (by exact jq (ay (by omega) (by omega))) ?_)))
 refine zb rfl (by exact ei (ay (by omega) (by omega))) ?_
 have em:min (3000:Int) ((n:Int)-3000*0)=(n:Int):=by omega
 refine zo rfl (MV (r:=.int .i64 (n:Int)) rfl rfl (Zj.trans (by rw[em]))) ?_
 refine zk 2 rfl (WP.block ?_)
 have s:=s.kS (k:=1)
 refine QN hT hM (by omega) n 0 _ _ _ _ (by omega) s ⟨rfl,rfl,rfl,rfl,rfl,rfl,rfl,aa⟩ (fun v' E' h' hE s' => ?_)
 have s:=s'
 refine WP.has hE (zr rfl (zb rfl (by exact aO (ay (by omega) (by omega))) ?_))
 refine zm rfl (zv (WP.loop (zg rfl (zh rfl (az rfl rfl aL) (by decide) ?_))))
 refine zk 3 rfl (WP.exit (zK 3 rfl (zo rfl (aC rfl rfl rfl (s.eY (n:=(wB (bt M) n).length) (j:=0) rfl (by rw[iD,cz]) (by decide) cC)) ?_)))
 obtain⟨i1,eT,gC,om⟩:=w8
 obtain⟨wv,h1,e3,s1⟩:=yP (P:=Tryz.prog) s cC eT yL gC (by omega) rfl (by decide) (by decide) (n:=0) (c:=(wB (bt M) n).length) (by omega) (by omega)
 refine aA.any rfl rfl rfl (OpR.of (R:=fun v h'=>v=wv∧h'=h1) (wQ rfl rfl e3) ⟨rfl,rfl⟩) ?_
 rintro w0 h ⟨rfl,rfl⟩
 have s:Sat h (.arr 1 w0 []::_):=s1
 obtain⟨w3,h2,e4,s2⟩:=gK s cC eT yL gC (by omega) rfl (by decide) (by simp only[iD,bI];omega)
 rw[cO] at s2
 refine zm rfl (aA.any rfl rfl rfl (OpR.of (R:=fun v h'=>v=w3∧h'=h2) (iG rfl rfl e4) ⟨rfl,rfl⟩) ?_)
 rintro w3 h ⟨rfl,rfl⟩
 exact zk 3 rfl (WP.ret ⟨aa,_,rfl,_,lZ,rfl,qu,f_.trans l7,(((((s2.ae [0,3]).del 5).del 4).del 3).del 2)⟩)
end
section
variable {v c x:V} {cs:List V}
theorem DX (s:Sat h (.arr 1 v cs::S))(hi:i<cs.length)(hx:x.cells=[x])(J:storable x=true)(hu:P.underlying t=some (.slice te))(zZ:bg P te=some 1):
  ∃id off h',indexAddrV P t v (.int .i64 (i:Int))=some (.ptr id off)∧iV P h te (.ptr id off) x=some h'∧Sat h' (.arr 1 v (cs.set i x)::S):=by
 have h_:cs≠[]:=fun e=>by rw[e] at hi;simp at hi
 have I:=s.G5 (j:=0) rfl
 obtain⟨id,m,cap,M,rest,rfl,hl,hM,s1,hc⟩:=s.VT h_
 rw[cz] at hl
 obtain⟨h',e1,e2⟩:=s1.lu (P:=P) (t:=te) (k:=0) (off:=i) (v:=x) rfl zZ (by rw[aX,hM]) (by omega) hx J
 refine⟨id,i,h',?_,e1,hc h' (cs.set i x) S (bT) ?_ ?_⟩
 ·simp only[indexAddrV,hu,zZ,dm]
  rw[show(decide ((0:Int)≤(i:Int))&&decide ((i:Int)<(m:Int)))=true by simp;omega,ag]
  simp
 ·rw[mJ] at I ⊢
  intro y hy
  rcases lG hy with hy|rfl
  ·exact I y hy
  ·exact J
 ·have e3:(cs++rest).set i x=cs.set i x++rest:=List.set_append_left _ _ hi
  dsimp only[setA] at e2
  rw[e3] at e2
  exact e2
end
section
variable {P:Int→List Nat}
theorem Nv.acg (hN:Nv F P l lo hi cs es ps)(h1:486<dY cs)(I:dY cs≤if l=0 then 715 else 590): ∃k,mX cs (min 2 (l+1)) k:=by
 have hc:=hN.cells
 cases l with
 |zero=>exact S_ (fun c h=>by have:=(hc c h).2.1;omega) h1 I
 |succ l =>
  obtain⟨ks,rfl,hS,_⟩:=hN
  have e:min 2 (l+1+1)=2:=by omega
  rw[e]
  rw[ax (by omega)] at I
  obtain⟨kk,J⟩:∃kk,ks[0]?=some kk:=⟨_,aG (by
   rcases lJ ks.length with q|q
   ·exact absurd (iz q) hS.ne
   ·exact q)⟩
  exact Ta (fun c h=>by have:=(hc c h).2.2 (by omega);omega) (j_ J) (by simp[ie,dH]) h1 I
theorem mX.parts (h:mX cs (min 2 (l+1)) k): ∃c,cs[k]?=some c∧iM l (cs.take k)∧iM l (rgtC l (cs.drop k))∧dY (cs.take k)≤486∧dY (rgtC l (cs.drop k))≤486∧1≤k∧k<cs.length:=by
 have hk:=h.k2
 have yX:=h.l1
 have iq:=h.l2
 have I:=h.s2
 obtain⟨c,t,J⟩:∃c t,cs.drop k=c::t:=by
  cases q:cs.drop k with
  |nil=>have:=dn List.length q;rw[gi,bI] at this;omega
  |cons c t=>exact⟨c,t,rfl⟩
 have hlen:(cs.drop k).length=cs.length-k:=gi
 refine⟨cs[k],aG hk,?_,?_,h.s1,?_,h.k1,hk⟩
 ·unfold iM
  split
  ·exact Ec (by rw[cj];have:=h.k1;omega)
  ·rw[cj];omega
 ·unfold iM rgtC
  split
  ·rw[J];simp
  ·rw[J] at hlen ⊢
   simp only[aZ] at hlen ⊢
   omega
 ·unfold rgtC
  split
  ·exact I
  ·rw[J] at I ⊢
   simp only[dY,tot,jb,List.sum_cons,aZ,cj] at I ⊢
   omega
end
theorem TC {P:Int→List Nat}{m z:Nat}(hN:Nv iM P l [] none cs es ps)(h1:1≤k)(hc:cs[k]?=some c)(J:iM l (cs.take k))(Gj:iM l (rgtC l (cs.drop k)))
 (Jh:cm (P' m) 204 0 l (cs.take k))(BM:cm (P' z) 204 0 l (rgtC l (cs.drop k)))(I:∀q∈ps,P' (q:Nat)=P q)(hm:m<4294967296)(hz:z<4294967296):
  ∃qs qt,ps=qs++qt∧Nv iM P' (l+1) [] none [ie m [],ie z (fN l c)] es (m::(qs++z::qt)):=by
 obtain⟨mg,jD,qs,qt,rfl,rfl,q1,q2,q3,_,q5,q6⟩:=hN.cut h1 hc
 exact⟨qs,qt,rfl,Nv.two (q1.frame fun q hq=>I q (fP _ hq)) J Jh (q2.frame fun q hq=>I q (kD _ hq)) Gj BM q3 ⟨q5,q6⟩ hm hz⟩
section
variable {told:cy} {U5 U6 gv v1 vz:V} {vs:List V} {c':List Nat} {ds t:List (List Nat)}
theorem QO {v:V}{b d:Nat}(I:a≤b)(J:b≤d)(hc:d≤c.length)(hl:1≤c.length): bX (l9 v c) (l9 (slR3 v a b d) ((c.take b).drop a)):=fun _ _ h=>ViewM.slice3 h I J hc hl
theorem TD (s:Sat h (l9 u c'::dD vs (c::t)::S)): Sat h (dD (vs.set 0 u) (c'::t)::S) :=
 s.two (aJ.bK _ _) (aJ.rK _ _) fun m r a b=>by
  cases vs with
  |nil=>exact b.elim
  |cons z vs=>exact⟨a,b.2⟩
theorem TE {b d:Nat}{v:V}{l:List Nat}(hv:View h v l)(J:b≤d)(hc:d≤l.length)(I:1≤l.length): sliceV Tryz.prog h 29 v none (some b) (some d)=some (slR3 v 0 b d):=by
 rw[←qU (h:=h) hv (eN b) J hc I]
 rcases hv.2 with⟨_,rfl⟩|⟨id,off,cap,n,cs,st,rfl,hg,h1,h2,h3,h4⟩
 ·simp at I
 ·cases cap<;>simp only[sliceV,ak,eo,cS]
theorem TF {t:TypeId}(hu:P.underlying t=some (.slice e))(hz:zeroT P e=some z)(hk:bg P e=some 1)(hl:z.cells.length=1)(I:u.cells=[u])(J:storable u=true): buildSliceV P h t 1 [(0,u)]=some (.sl h.next 0 1 (.exact 1),h.new (.cells 1 [u] false)):=by
 have k1:u.cells.length=1:=by rw[I];rfl
 have k2:u.cells.all storable=true:=by rw[I];simp[J]
 have:buildSliceV P h t 1 [(0,u)]=some (.sl h.next 0 1 (.exact 1),newRow h u.cells):=by
  grind[buildSliceV,repeatL,fillV,Nat.beq_refl,aP]
 rw[this,I]
 rfl
theorem QS (I:WI told){y:Nat}{v:V}(s:Sat h (Gs v us::pt y (.cells 1 [u] false)::S))(hu:storable u=true)(hi:i≤us.length)(J:us.length≤512):
  Call ⟨Tryz.prog,told⟩ 52 [v,.int .i64 (i:Int),.sl y 0 1 (.exact 1)] h fun r h'=>Sat h' (.arr 1 r (cN i u us)::S):=by
 rcases Au hi with hi|rfl
 ·exact(WE I s hu hi J).mono fun r h' s=>s.dG wA
 ·have s:=(s.dG wA).ae [1]
  have s:Sat h (.arr 1 (.sl y 0 1 (.exact 1)) [u]::_):=s.dG fun m r h=>⟨by simp[hu],.inr ⟨y,1,.exact 1,1,[],rfl,h,rfl,rfl,rfl,rfl,aM _⟩⟩
  have s:=s.ae [1]
  have e:cN us.length u us=us++[u]:=by simp[cN]
  rw[e]
  exact QE I s J
theorem L4 (s:Sat h (l9 u c::dD us cs::S)): Sat h (dD (cN i u us) (cN i c cs)::S) :=
 s.two (aJ.bK _ _) (aJ.rK _ _) fun m r a b=>Il (Gv i b) ⟨a,Gw i b⟩
theorem Kv {P:Int→List Nat}: ∀ {fx:Fx} {l:Nat},(∀e∈fx,P' (e.2.pg:Int)=P e.2.pg)→nodsA P' l fx=nodsA P l fx:=by
 intro fx
 induction fx with
 |nil=>intro l _;rfl
 |cons e t I =>
  intro l he
  simp only[nodsA]
  rw[he e bO,I fun J h'=>he J (bR _ h')]
theorem js.pgs {P:Int→List Nat}: ∀ {fs:List uH} {l:Nat} {lo:Ky} {hi:Option Ky} {n:Nat} {eL eR:List En} {pO:List Nat},js F P L r fs l lo hi n eL eR pO→∀f∈fs,f.pg∈pO:=by
 intro fs
 induction fs with
 |nil=>intro _ _ _ _ _ _ _ _ f J;cases J
 |cons f fs ih =>
  rintro l lo hi n eL eR pO ⟨kx,iB,mE,lC,lD,kk,h1,_,_,_,_,_,_,_,_,_,_,rfl⟩ g I
  rcases List.mem_cons.1 I with rfl|I
  ·exact bO
  ·exact bR _ (fP _ (ih h1 g I))
noncomputable def spC : Code:=cE [1,1,1,1,1,1,1,1,1,0] ((Tryz.f54.body).getD .skip)
theorem ZF (hT:W told)(lB:∀c∈ds,jl l c)(h_:1≤ds.length)(hl:l≤64)(s:Sat h (.arr 1 bv vs::dD vs ds::pt x (.cells 4 (BQ n l U5 U6) false)::S))
 (hE:Has E [(0,gv),(1,pv),(7,.ptr x 0),(10,v1),(11,bv),(12,vz),(14,kv)])
 (hq:∀E' h' J,Has E' [(0,gv),(1,pv),(7,.ptr x 0),(10,v1),(11,bv),(12,vz),(14,kv)]→Sat h' (.arr 1 bv J::dD J (rgtC l ds)::pt x (.cells 4 (BQ n l U5 U6) false)::S)→Q .normal E' h'): WP ⟨Tryz.prog,told⟩ 196 spC E h Q:=by
 obtain⟨c,t,rfl⟩:∃c t,ds=c::t:=by
  cases ds with
  |nil=>simp at h_
  |cons c t=>exact⟨c,t,rfl⟩
 refine WP.has hE (zK 4 rfl (zf rfl (fT _ _) (zl rfl (by first|exact s.ld (k:=0) rfl bZ rfl|exact s.ld (k:=1) rfl bZ rfl|exact s.ld (k:=2) rfl bZ rfl|exact s.ld (k:=3) rfl bZ rfl|exact s.ld (k:=4) rfl bZ rfl|exact s.ld (k:=5) rfl bZ rfl|exact s.ld (k:=6) rfl bZ rfl|exact s.ld (k:=7) rfl bZ rfl|exact s.bW (k:=0) rfl bZ rfl|exact s.bW (k:=1) rfl bZ rfl|exact s.bW (k:=2) rfl bZ rfl|exact s.bW (k:=3) rfl bZ rfl) ?_)))
 by_cases h0:l=0
 ·subst h0
  refine zC rfl cL (by simp) ?_
  refine zv (zj rfl (WP.skip ?_))
  exact hq _ _ vs ⟨rfl,rfl,rfl,rfl,rfl,rfl,rfl,aa⟩ s
 ·have I:=lB c bO
  rw[jl,ax h0] at I
  obtain⟨u,id,off,e1,e2,_,s⟩:=Bi (P:=Tryz.prog) (i:=0) (mA _ _ _).s rfl bh eZ ah s
  have hv:=s.aq (k:=2) rfl (aY _ _)
  have F8:=TE (b:=4) (d:=4) hv (aM _) I (by omega)
  have s:=(s.ae [2]).dG (QO (a:=0) (b:=4) (d:=4) (by omega) (by omega) I (by omega))
  have U7:=(s.aq (k:=0) rfl (aY _ _)).cells
  have s:=s.ae [1]
  obtain⟨F7,ach,h2,e3,e4,s2⟩:=DX (P:=Tryz.prog) (i:=0) (x:=slR3 u 0 4 4) s (by have:=pG (s.ae [2]);simp only[aZ] at this;omega) U7.1 U7.2 bh eZ
  have s2:=TD (s2.ae [1,1])
  have s2:=s2.ae [1]
  refine zB rfl cL (by simp;omega) ?_
  refine zk 5 rfl (zo rfl (bx (r:=.ptr id off) rfl rfl e1) (zl rfl e2 (zo rfl (bS (p:=none) (q:=some (.int .i64 4)) (m:=some (.int .i64 4)) (p':=none) (q':=some 4) (m':=some 4) rfl rfl rfl rfl rfl rfl rfl F8) (zo rfl (bx (r:=.ptr F7 ach) rfl rfl e3) (zS rfl (⟨_,e4,s2⟩) ?_)))))
  intro h s
  refine zv ?_
  have hrg:rgtC l (c::t)=c.take 4::t:=by rw[rgtC,ax h0]
  exact hq _ _ (vs.set 0 (slR3 u 0 4 4)) ⟨rfl,rfl,rfl,rfl,rfl,rfl,rfl,aa⟩ (by rw[hrg];exact s)
end
section
variable {told:cy} {p root:Nat}
def SpR (N B g a p q r bA root:Nat)(data R ot:List Nat)(ε:bw)(now:List (Int×List Nat))(es:List En)(fg:Nat)(S:List aI)(v:V)(h':H): Prop:=∃aj bH,EI N B aj∧Sm N ε aj∧NW N bH∧Sat h' (GA g a p q r data bA bH aj::S) ∧
 ((v=.int .i64 7∧N≤fg)∨v=.int .i64 0∧∃M' J cs' I,ir N R M' (pgG bH aj)∧mY N M' ((root::I)++ot)∧Nv iM (pgG bH aj) J [] none cs' es I∧cm (pgG bH aj root) 204 0 J cs'∧J≤64∧∀m∈ot,pgG bH aj m=pgG now ε m)
theorem Sat.skip {A:aI}: ∀(k:Nat) {S:List aI},Sat h (A::S)→Sat h (A::S.drop k):=by
 intro k
 induction k with
 |zero=>intro S s;exact s
 |succ k I=>intro S s;cases S with
  |nil=>exact s
  |cons B S=>exact I (S:=S) (s.del 1)
set_option maxHeartbeats 1000000 in
theorem TG (hT:WI told)(hB:B≤2000)(hN:N≤2999): ∀(m:Nat) (fx:Fx) (l x n i:Nat) (lo:Ky) (hi:Option Ky) (eL eR:List En) (pO:List Nat) (cs DY:List (List Nat)) (b0:List Nat) (es:List En) (ps:List Nat) (v w:V) (us:List V) (ε:bw) (now:List (Int×List Nat)) (M:List Nat) (L:Nat) (h:H) (S:List aI),
  fx.length<m→EI N B ε→NW N now→ir N R M (pgG now ε)→mY N M ((pO++n::ps)++ot)→js iM (pgG now ε) L root (fx.map (·.2)) l lo hi n eL eR pO→Nv iM (pgG now ε) l lo hi cs es ps→486<dY cs→dY cs≤(if l=0 then 715 else 590)→fx.length+l=L→L≤60 →
  Sat h (GA g a p q r data bA now ε::roS 1 v us::dD us cs::wyA w (gZ fx++[(x,i)])::cH x n l b0 DY::nodsA (pgG now ε) (l+1) fx::S) →
  Call ⟨Tryz.prog,told⟩ 54 [.ptr g 0,w,v] h (SpR N B g a p q r bA root data R ot ε now (eL++es++eR) (((pO++n::ps)++ot).length+fx.length+3) S):=by
 have hW:=hT.w
 intro m
 induction m with
 |zero=>intro fx l x n i lo hi eL eR pO cs DY b0 es ps v w us ε now M L h S hm;exact absurd hm (vB _)
 |succ m ih =>
  intro fx l x n i lo hi eL eR pO cs DY b0 es ps v w us ε now M L h S hm dL hw jW ql pP Ac BJ v8 hL aci s
  have ff:=Ac.cells
  obtain⟨k0,Ua⟩:=Ac.acg BJ v8
  have adL:=Ua.k2
  have adM:=Ua.k1
  have ko:cs.length≤512:=by
   have:dY cs≤715:=by split at v8<;>omega
   rw[kK] at this
   omega
  have Aa:(gZ fx).length=fx.length:=by rw[gZ,ju,cq]
  have nL:(gZ fx++[(x,i)]).length=fx.length+1:=by rw[aX,Aa];rfl
  have s:=s.ae [3]
  obtain⟨id,off,e1,e2,_⟩:=U3 (P:=Tryz.prog) (j:=fx.length) (x:=x) (i:=i) fo pV (by rw[g8 (by omega),Aa,gG];rfl) s
  have U8:=DU (P:=Tryz.prog) s fo
  rw[nL] at U8
  have s:=s.ae [4]
  obtain⟨U5,U6,us0,s⟩:=bQ.1 s
  refine Call.of_wp (hW.free _ rfl) Tryz.func54 rfl rfl (zK 8 rfl (zo rfl (aC rfl rfl rfl U8) (zo rfl (az (r:=.int .i64 (fx.length:Int)) rfl rfl (by rw[show((fx.length:Nat):Int)=((fx.length+1:Nat):Int)-1 by omega];exact ei (ay (by omega) (by omega)))) ?_)))
  refine zo rfl (bx (r:=.ptr id off) rfl rfl e1) (zf rfl (oc _ _) (zl rfl (e2 _ uY) (zk 6 rfl (zY s 0 fT bZ rfl (zo rfl (az (r:=.int .i64 ((l+1:Nat):Int)) rfl rfl (by rw[show((l+1:Nat):Int)=(l:Int)+1 by omega];exact aO (ay (by omega) (by omega)))) ?_)))))
  refine zo rfl (MV (r:=.int .i64 ((min 2 (l+1):Nat):Int)) rfl rfl (Zj.trans (by rw[show min (2:Int) ((l+1:Nat):Int)=((min 2 (l+1):Nat):Int) by omega]))) ?_
  have s:=s.ae [6,6]
  refine zk 6 rfl (zc rfl (QB hW (ig _ _ _) (fun c h=>(ff c h).2.1) ko (by omega) (by omega) s) ?_)
  rintro v0 h ⟨k,rfl,m6,nX,s⟩
  have hk:k≠0:=fun e=>m6 e k0 Ua
  have tV:=nX hk
  obtain⟨ck,QT,ux,Gj,f_,l7,lR,j8⟩:=tV.parts
  have wk:1≤(fN l ck).length∧(fN l ck).length≤96:=by
   obtain⟨_,_,_,_,_,_,_,_,_,_,q5,q6⟩:=Ac.cut lR QT
   exact⟨q5,q6⟩
  have FJ:=ql.tY n (by simp)
  refine zk 6 rfl (zC rfl ej (by simp;omega) ?_)
  refine zk 4 rfl ?_
  have qp:=pG (s.ae [1])
  have z0:=s
  have g1:=G9 (P:=Tryz.prog) (b:=k) (s.nr (j:=0) rfl (ig _ _ _)) (by omega) lR bh eZ
  have g2:=U1 (P:=Tryz.prog) (a:=k) (s.nr (j:=0) rfl (ig _ _ _)) (by omega) bh eZ
  obtain⟨v1,f1,s⟩:=UT (P:=Tryz.prog) (b:=k) s (by omega) lR bh eZ
  obtain⟨v2,f2,s⟩:=aaZ (P:=Tryz.prog) (a:=k) (s.ae [1]) (by omega) bh eZ
  rw[g1] at f1
  rw[g2] at f2
  cases f1
  cases f2
  have Zu:=(Cf (s.nr (j:=1) rfl (ig _ _ _))).2.2
  have m6:=(Cf (s.nr (j:=2) rfl (ig _ _ _))).2.2
  have nX:=(Cf (s.nr (j:=0) rfl (ig _ _ _))).2.2
  refine WP.drawn [some (0,2),some (0,2),some (0,2),some (0,2),af,af,af,af,af,af] rfl (by kernel_rfl) (by kernel_rfl) ?_
  refine zM rfl (zM rfl (zM rfl (zO rfl (bS (p:=none) (q:=some (.int .i64 (k:Int))) (m:=some (.int .i64 (k:Int))) (p':=none) (q':=some k) (m':=some k) rfl rfl rfl rfl rfl (by rw[b9 (by omega)];rfl) (by rw[b9 (by omega)];rfl) (G9 (s.nr (j:=1) rfl (ig _ _ _)) (by omega) lR bh eZ)) ?_)))
  refine zM rfl (zM rfl (zO rfl (bS (p:=some (.int .i64 (k:Int))) (q:=none) (m:=none) (p':=some k) (q':=none) (m':=none) rfl rfl rfl rfl (by rw[b9 (by omega)];rfl) rfl rfl (U1 (s.nr (j:=1) rfl (ig _ _ _)) (by omega) bh eZ)) ?_))
  have z0:=s
  refine aE.any rfl rfl rfl rfl (OpR.call rfl rfl rfl rfl (z_ hW s (ig _ _ _) (by rw[gi];omega))) ?_
  intro cv h s
  have z1:=s.ae [1,1]
  dsimp only[bringA,getA,aT] at z1
  refine zA rfl (zA rfl ?_)
  refine aE.nil ⟨⟨fun _ _=>.inr ⟨rfl,⟨_,bV rfl⟩,Zu⟩,fun _ _=>.inr ⟨rfl,⟨_,bV rfl⟩,bj _ rfl⟩,fun _ _=>.inr ⟨rfl,⟨_,bV rfl⟩,bj _ rfl⟩,ga (.inr ⟨rfl,⟨_,bS (p:=none) (q:=some (.int .i64 (k:Int))) (m:=some (.int .i64 (k:Int))) (p':=none) (q':=some k) (m':=some k) rfl rfl rfl rfl rfl (by rw[b9 (by omega)];rfl) (by rw[b9 (by omega)];rfl) (G9 (z0.nr (j:=1) rfl (ig _ _ _)) (by omega) lR bh eZ)⟩,m6⟩) (.inr ⟨rfl,⟨_,bS (p:=none) (q:=some (.int .i64 (k:Int))) (m:=some (.int .i64 (k:Int))) (p':=none) (q':=some k) (m':=some k) rfl rfl rfl rfl rfl (by rw[b9 (by omega)];rfl) (by rw[b9 (by omega)];rfl) (G9 (z1.nr (j:=1) rfl (ig _ _ _)) (by omega) lR bh eZ)⟩,m6⟩),aa,aa,aa,aa,aa,aa,aa⟩,?_⟩
  refine zK 3 rfl ?_
  have s:=Tx k (s.ae [4])
  have s:=Ty k (s.ae [1])
  have s:=((s.del 5).del 4).del 1
  have s:=s.ae [9]
  refine zc rfl (Ab hW hB dL hw jW ql s) ?_
  rintro v0 h ⟨mw,vh,b1,b2,b3,b4,s1,(⟨rfl,rfl,Ba⟩|⟨z,M1,rfl,c1,c2,c3,c4,c5,c6⟩)⟩
  ·skip
   refine zk 10 rfl (zB rfl aN (by decide) ?_)
   exact zk 7 rfl (WP.ret ⟨aa,_,rfl,mw,_,b1,b2,b3,s1.skip 10,.inl ⟨rfl,by omega⟩⟩)
  refine zk 10 rfl (zC rfl aN (rfl) ?_)
  have s:=s1.ae [3,0,3,0,1,0]
  obtain⟨y,rfl,lq,s⟩:=Jm s (by rw[gi];omega)
  refine zk 7 rfl (zY s 2 fT bZ rfl (zm rfl (zo rfl (cP (r:=.agg [.int .i64 ((0:Nat):Int),.int .i64 (l:Int),.aV,.sl y 0 (us.drop k).length (.rest 1 0)]) rfl (by rw[Ut];rfl)) ?_)))
  refine aA.cB s rfl rfl rfl (fH rfl (by rfl)) ?_
  intro x2 h s
  have s:=z8 (by rw[gi];omega) lq (s.ae [1])
  have s:=s.ae [1,0,2]
  have acj:(cs.drop k)[0]?=some ck:=by rw[eA,dA];exact QT
  obtain⟨Ad,ZG,_⟩:=ff ck (aR QT)
  refine zc rfl (Tz hW (i:=0) (fun m r h=>(mA _ _ _).s m r (wA m r h)) acj Ad (by omega) ZG s) ?_
  intro kv h s
  refine zc rfl (rL hW s (aY _ _) (by have:=ZG;unfold fN;split<;>simp<;>omega)) ?_
  intro cut h s
  have s:=(((s.del 2).del 1).ae [1]).dG wA
  have s:=s.ae [0,1,2]
  refine zk 3 rfl (ZF hW (fun c hc=>(ff c (gF hc)).1) (by rw[gi];omega) (by omega) s ⟨rfl,rfl,rfl,rfl,rfl,rfl,rfl,aa⟩ fun E' h' vs' fh s' => ?_)
  have s:=s'
  refine WP.has fh ?_
  have s:=s.ae [4]
  refine zK 7 rfl (zY s 3 fT bZ rfl (zm rfl (zc rfl (rM hW hB b1 b3 c2 (mA _ _ _).s l7 (by omega) s) ?_)))
  rintro v0 h ⟨lZ,bz,rfl,d1,d2,d3,d4,s⟩
  have Ae:∀q:Int,pgG (cY (z:Int) bz vh) lZ q=if (z:Int)=q then bz else pgG vh mw q:=fun q=>by rw[fU,nu d2]
  have ZH:ir N R M1 (pgG (cY (z:Int) bz vh) lZ):=c4.frame (by rw[Ae,ax (by omega)]) (by rw[Ae,ax (by omega)])
  have Bb:=DU (P:=Tryz.prog) (s.ae [10]) fo
  rw[nL] at Bb
  generalize adn:cY (z:Int) bz vh=Ft at s Ae ZH d3
  refine zk 5 rfl (zC rfl aN (rfl) (zk 7 rfl (zo rfl (aC rfl rfl rfl Bb) ?_)))
  cases fx with
  |nil =>
   obtain⟨rfl,rfl,rfl,rfl,rfl,rfl,rfl⟩:=pP
   refine zB rfl ej (by simp) ?_
   refine zk 5 rfl (zc rfl (Ab hW hB d1 d3 ZH c5 s) ?_)
   rintro v0 h ⟨rU,J,g1,g2,g3,g4,s1,(⟨rfl,rfl,Ba⟩|⟨z2,M2,rfl,k1,k2,k3,k4,k5,k6⟩)⟩
   ·skip
    refine zk 10 rfl (zB rfl aN (by decide) ?_)
    exact zk 7 rfl (WP.ret ⟨aa,_,rfl,rU,_,g1,b2.trans (d2.trans g2),g3,s1.skip 11,.inl ⟨rfl,by simp only[aZ] at Ba ⊢;omega⟩⟩)
   refine zk 10 rfl (zC rfl aN (rfl) ?_)
   have s:=s1.ae [0,4,4,2,2]
   refine zk 10 rfl (zY s 3 fT bZ rfl (zm rfl (zc rfl (rM hW hB g1 g3 k2 (ig _ _ _) f_ (by omega) s) ?_)))
   rintro v0 h ⟨t_,bm,rfl,m1,m2,m3,m4,s⟩
   have I:∀q:Int,pgG (cY (z2:Int) bm J) t_ q=if (z2:Int)=q then bm else pgG J rU q:=fun q=>by rw[fU,nu m2]
   generalize U9:cY (z2:Int) bm J=xB at s I m3
   refine zk 5 rfl (zC rfl aN (rfl) (zk 4 rfl ?_))
   have z0:=s
   have rY:=jZ (s.aq (k:=4) rfl (aK _ _))
   refine WP.drawn [some (0,4),some (0,4),some (0,4),some (0,4),some (0,4),some (0,4),some (0,4),some (0,4),some (0,4),some (0,4),none,none,some (0,2),some (0,2),af,af,af,af] rfl (by kernel_rfl) (by kernel_rfl) ?_
   refine zM rfl (zM rfl (zN rfl (zF rfl (qA _ _) (zL rfl (s.ld (k:=3) rfl bZ rfl) (zM rfl (zN rfl (zF rfl (fT _ _) (zL rfl (s.ld (k:=3) rfl bZ rfl) (zO rfl (az rfl rfl (by exact aO (ay (by omega) (by omega)))) ?_)))))))))
   refine zM rfl (aE.any rfl rfl rfl rfl (OpR.call rfl rfl rfl rfl (Fs hW (m:=z2) (by omega) (s.fq (φ:=True) aa) L2 (by decide))) ?_)
   intro u1 h s
   have s:=(s.fD.del 1).ae [0,4]
   have z1:=s
   refine zM rfl (zM rfl (aE.any rfl rfl rfl rfl (OpR.call rfl rfl rfl rfl (Fs hW (m:=z) (by omega) (s.ae [1]) (aK _ _) (by omega))) ?_))
   intro u2 h s
   have s:=(s.fD.del 1).ae [1,0]
   have Ju:=s
   have UO:=(s.aq (k:=0) rfl (aY _ _)).cells
   have hu2:=(s.aq (k:=1) rfl (aY _ _)).cells
   obtain⟨Gt,h1,e3,s1⟩:=L1 (P:=Tryz.prog) (x:=u1) (y:=u2) s bh k8 eZ rfl UO.1 hu2.1 UO.2 hu2.2
   refine aE.any rfl rfl rfl rfl (OpR.of (R:=fun v h'=>v=Gt∧h'=h1) (gI rfl e3) ⟨rfl,rfl⟩) ?_
   rintro Gt h ⟨rfl,rfl⟩
   have z3:=s1
   have s:=(s1.ae [1,1]).two (C:=dD [u1,u2] [ie z2 [],ie z (fN l ck)]) (aJ.bK _ _) (aJ.bK _ _) fun a b q1 q2=>⟨q1,q2,aa⟩
   have s:=s.ae [2,1]
   refine aE.any rfl rfl rfl rfl (OpR.call rfl rfl rfl rfl (rM (n:=n) (l:=l+1) hW hB m1 m3 FJ.2 (mA _ _ _).s (by rw[kK];simp[tot,ie,dH];omega) (by omega) s)) ?_
   rintro v0 h ⟨NK,bn,rfl,n1,n2,n3,n4,s⟩
   have Cm:∀q:Int,pgG (cY (n:Int) bn xB) NK q=if (n:Int)=q then bn else pgG xB t_ q:=fun q=>by rw[fU,nu n2]
   generalize ado:cY (n:Int) bn xB=Fy at s Cm n3
   refine zA rfl ?_
   refine aE.nil ⟨⟨fun _ _=>.inr ⟨rfl,⟨_,bV rfl⟩,bj _ rfl⟩,fun _ _=>.inr ⟨rfl,⟨_,bV rfl⟩,bj _ rfl⟩,fun _ _=>.inr ⟨rfl,⟨_,su rfl⟩,bj _ rfl⟩,fun _ _=>.inr ⟨rfl,⟨_,lU rfl (qA _ _)⟩,bj _ rfl⟩,yJ (.inr ⟨rfl,⟨_,o_load rfl (z0.ld (k:=3) rfl bZ rfl)⟩,bj _ rfl⟩) (.inr ⟨rfl,⟨_,o_load rfl (z1.ld (k:=5) rfl bZ rfl)⟩,bj _ rfl⟩) (.inr ⟨rfl,⟨_,o_load rfl (Ju.ld (k:=5) rfl bZ rfl)⟩,bj _ rfl⟩) (.inr ⟨rfl,⟨_,o_load rfl (z3.ld (k:=6) rfl bZ rfl)⟩,bj _ rfl⟩),fun _ _=>.inr ⟨rfl,⟨_,bV rfl⟩,bj _ rfl⟩,fun _ _=>.inr ⟨rfl,⟨_,su rfl⟩,bj _ rfl⟩,fun _ _=>.inr ⟨rfl,⟨_,lU rfl (fT _ _)⟩,bj _ rfl⟩,yJ (.inr ⟨rfl,⟨_,o_load rfl (z0.ld (k:=3) rfl bZ rfl)⟩,bj _ rfl⟩) (.inr ⟨rfl,⟨_,o_load rfl (z1.ld (k:=5) rfl bZ rfl)⟩,bj _ rfl⟩) (.inr ⟨rfl,⟨_,o_load rfl (Ju.ld (k:=5) rfl bZ rfl)⟩,bj _ rfl⟩) (.inr ⟨rfl,⟨_,o_load rfl (z3.ld (k:=6) rfl bZ rfl)⟩,bj _ rfl⟩),fun _ _=>.inr ⟨rfl,⟨_,az rfl rfl (by exact aO (ay (by omega) (by omega)))⟩,bj _ rfl⟩,aa,aa,fun _ _=>.inr ⟨rfl,⟨_,bV rfl⟩,bj _ rfl⟩,fun _ _=>.inr ⟨rfl,⟨_,bV rfl⟩,rY⟩,aa,aa,aa,aa,aa⟩,?_⟩
   refine WP.ret ⟨aa,_,rfl,?_⟩
   have hP:∀q:Int,q≠1→q≠(z:Int)→q≠(z2:Int)→q≠(n:Int)→pgG Fy NK q=pgG now ε q:=fun q h1 h2 h3 h4=>by
    rw[Cm,ax (fun e=>h4 e.symm),I,ax (fun e=>h3 e.symm),k6 q h1 h3,Ae,ax (fun e=>h2 e.symm),c6 q h1 h2]
   have gW:=ql.nd
   simp only[cO,g9,sI,nD,not_or] at gW
   have Bt:z∉ps∧z∉ot∧z≠n:=by simpa[not_or,and_assoc,and_comm,and_left_comm] using c3
   have Ir:z2∉ps∧z2∉ot∧z2≠n∧z2≠z:=by
    simp only[cO,g9,gm,nD,not_or] at k3
    exact⟨k3.2.2.1,k3.2.2.2,k3.2.1,k3.1⟩
   have hold:∀q:Nat,q∈ps∨q∈ot→pgG Fy NK q=pgG now ε q:=fun q hq=>by
    have hr:=ql.tY q (by simp only[cO,g9,gm,nD];exact .inr hq)
    refine hP q (by omega) (fun e => ?_) (fun e => ?_) (fun e => ?_)
    ·have:q=z:=by omega
     subst this
     rcases hq with q|q
     ·exact Bt.1 q
     ·exact Bt.2.1 q
    ·have:q=z2:=by omega
     subst this
     rcases hq with q|q
     ·exact Ir.1 q
     ·exact Ir.2.1 q
    ·have:q=n:=by omega
     subst this
     rcases hq with q|q
     ·exact gW.1.1 q
     ·exact gW.1.2 q
   have ZI:pgG Fy NK (z:Int)=bz:=by
    rw[Cm,ax (by omega),I,ax (by omega),k6 _ (by omega) (by omega),Ae,aH rfl]
   have hbm:pgG Fy NK (z2:Int)=bm:=by
    rw[Cm,ax (by omega),I,aH rfl]
   obtain⟨qs,qt,rfl,Fi⟩:=TC (P':=pgG Fy NK) (m:=z2) (z:=z) Ac lR QT ux Gj (by rw[hbm];exact m4.f) (by rw[ZI];exact d4.f) (fun q hq=>hold q (.inl hq)) (by omega) (by omega)
   refine⟨NK,Fy,n1,b2.trans (d2.trans (g2.trans (m2.trans n2))),n3,s.skip 12,.inr ⟨rfl,M2,l+1,_,z2::(qs++z::qt),k4.frame ?_ ?_,k5.perm ?_,by simpa using Fi,?_,by omega,fun q hq=>hold q (.inr hq)⟩⟩
   ·rw[Cm,ax (by omega),I,ax (by omega)]
   ·rw[Cm,ax (by omega),I,ax (by omega)]
   ·rw[vt]
    intro q
    simp only[cO,g9,vE,vy]
    omega
   ·rw[Cm,aH rfl]
    exact n4.f
  |cons e t =>
   refine zC rfl ej (by simp;omega) ?_
   have s:=s.ae [0,4,4,2,2,5,5]
   dsimp only[V.cells,List.length_cons,List.length_nil,Nat.reduceAdd,bringA,getA,aT] at s
   refine zk 5 rfl (WP.drawn [af,af,af,af,af,af,af,af,af,af,af,af] rfl (by kernel_rfl) (by kernel_rfl) ?_)
   refine zM rfl (zM rfl (zN rfl (zF rfl (qA _ _) (zL rfl (s.ld (k:=3) rfl bZ rfl) (zM rfl (zN rfl (zF rfl (fT _ _) (zL rfl (s.ld (k:=3) rfl bZ rfl) (zM rfl (aE.any rfl rfl rfl rfl (OpR.call rfl rfl rfl rfl (rM (n:=n) (l:=l) hW hB d1 d3 FJ.2 (ig _ _ _) f_ (by omega) s)) ?_))))))))))
   rintro v0 h ⟨rU,bn,rfl,g1,g2,g3,g4,s⟩
   have I:∀q:Int,pgG (cY (n:Int) bn Ft) rU q=if (n:Int)=q then bn else pgG Ft lZ q:=fun q=>by rw[fU,nu g2]
   generalize adp:cY (n:Int) bn Ft=J at s I g3
   refine zA rfl ?_
   refine aE.nil ⟨⟨aa,aa,aa,aa,aa,aa,aa,aa,aa,aa,aa,aa,aa⟩,?_⟩
   refine zK 3 rfl (zC rfl aN (rfl) ?_)
   have s:=s.ae [5]
   have NL:(gZ t).length=t.length:=by rw[gZ,ju,cq]
   have B0:(gZ (e::t)++[(x,i)])[t.length]?=some (e.1,e.2.i):=by
    rw[tZ,eB,g8 (by omega),NL,gG]
    rfl
   obtain⟨uL,vg,y1,_,y3⟩:=U3 (P:=Tryz.prog) fo pV B0 s
   have U_:=DU (P:=Tryz.prog) s fo
   rw[nL] at U_
   refine zk 7 rfl (zo rfl (aC rfl rfl rfl U_) (zo rfl (az (r:=.int .i64 (t.length:Int)) rfl rfl (by rw[show((t.length:Nat):Int)=(((e::t).length+1:Nat):Int)-2 by simp only[aZ];omega];exact ei (ay (by omega) (by omega)))) ?_))
   refine zo rfl (bx (r:=.ptr uL vg) rfl rfl y1) (zl rfl (y3 abI) ?_)
   refine aA.cB s rfl rfl rfl (cF Sf) (fun p20 h s => ?_)
   refine zS rfl (s.iK (j:=0) rfl pV rfl rfl) (fun h s => ?_)
   refine zk 5 rfl (zc rfl (Fs hW (m:=z) (by omega) (s.ae [6]) (aK _ _) (by omega)) ?_)
   intro kc h s
   have s:=((((((((s.fD.del 1).del 12).del 11).del 10).del 9).del 8).del 6).del 5).del 4
   have s:=s.ae [4]
   dsimp only[V.cells,List.length_cons,List.length_nil,Nat.reduceAdd,bringA,getA,aT,setA] at s
   have s:=xx.1 s
   obtain⟨ZJ,Va,use,s⟩:=bQ.1 s
   have s:=s.ae [0,5,1,1,0,1]
   dsimp only[bringA,getA,aT] at s
   -- what lies on the pages
   have hP3:∀q:Int,q≠1→q≠(z:Int)→q≠(n:Int)→pgG J rU q=pgG now ε q:=fun q h1 h2 h3=>by
    rw[I,ax (fun e=>h3 e.symm),Ae,ax (fun e=>h2 e.symm),c6 q h1 h2]
   have gW:=ql.nd
   rw[eB,vA] at gW
   have Cn:=gW.2.1
   rw[g9,sI] at Cn
   have hold:∀q:Nat,q∈pO∨q∈ps∨q∈ot→pgG J rU q=pgG now ε q:=fun q hq=>by
    have hm:q∈(pO++n::ps)++ot:=by
     simp only[nD,gm]
     rcases hq with q|q|q
     ·exact .inl (.inl q)
     ·exact .inl (.inr (.inr q))
     ·exact .inr q
    have hr:=ql.tY q hm
    refine hP3 q (by omega) (fun e => ?_) (fun e => ?_)
    ·have:q=z:=by omega
     subst this
     exact c3 hm
    ·have:q=n:=by omega
     subst this
     rcases hq with q1|q1
     ·exact gW.2.2 q q1 q (by simp) rfl
     ·exact Cn.1 (List.mem_append.2 q1)
   have ZI:pgG J rU (z:Int)=bz:=by
    have:z≠n:=fun e=>c3 (by simp[e])
    rw[I,ax (by omega),Ae,aH rfl]
   have hbn:pgG J rU (n:Int)=bn:=by rw[I,aH rfl]
   obtain⟨mg,jD,qs,qt,rfl,rfl,u1,u2,u3,u4,u5,u6⟩:=Ac.cut lR QT
   have ack:=js.frame (P':=pgG J rU) pP fun q hq=>hold q (.inl hq)
   obtain⟨kx,iB,mE,lC,lD,UR,LL,r1,r2,r3,r4,r5,r6⟩:=js.two ack (u1.frame fun q hq=>hold q (.inr (.inl (fP _ hq)))) ux (by rw[hbn];exact g4.f) (u2.frame fun q hq=>hold q (.inr (.inl (kD _ hq)))) Gj (by rw[ZI];exact d4.f) u3 u4 ⟨u5,u6⟩ (n2:=z) (by omega)
   dsimp only at r1 r2 r3 r4 r5 r6
   have acm:e.2.pg∈pO:=by
    obtain⟨_,_,_,_,_,_,_,_,_,_,_,_,_,_,_,_,_,hp⟩:=pP
    rw[hp]
    exact bO
   have OJ:cm (pgG now ε (e.2.pg:Int)) 204 0 (l+1) (kisC e.2.ks):=by rw[←hold e.2.pg (.inl acm)];exact r5
   have xC:mY N M1 ((lD++e.2.pg::LL)++ot):=c5.perm (by
    rw[vt] at r4 ⊢
    intro q
    have:=r4 q
    simp only[vy,vE] at this ⊢
    omega)
   have Jv:=xC.nd
   rw[eB,vA] at Jv
   have TH:=Jv.2.1
   rw[g9,sI] at TH
   have Dy:=xC.tY e.2.pg (by simp)
   have acn:∀q:Nat,q∈lD→q≠e.2.pg:=fun q hq e2=>Jv.2.2 q hq e.2.pg (by simp) e2
   have aco:∀q:Nat,q∈LL→q≠e.2.pg:=fun q hq e2=>TH.1 (by rw[←e2];exact fP _ hq)
   have Y6:∀q:Nat,q∈ot→q≠e.2.pg:=fun q hq e2=>TH.1 (by rw[←e2];exact kD _ hq)
   have xU:=iy (ks:=e.2.ks)
   have hkz:(ie z (fN l ck)).length=4+(fN l ck).length:=by simp[ie,dH]
   refine zk 3 rfl ?_
   have s:=s.ae [4,4]
   dsimp only[bringA,getA,aT] at s
   refine WP.drawn [af,af,af,af,af,af,af,af,af,af,af,af,af,af,af] rfl (by kernel_rfl) (by kernel_rfl) ?_
   refine zF rfl (oc _ _) (zL rfl (s.ld (k:=3) rfl uY rfl) (zN rfl (zF rfl (ET _ _) (zL rfl (s.ld (k:=2) rfl ah rfl) (zF rfl (C9 _ _) (zL rfl (s.ld (k:=3) rfl bZ rfl) (zO rfl (az (r:=.int .i64 ((e.2.i+1:Nat):Int)) rfl rfl (by rw[show((e.2.i+1:Nat):Int)=(e.2.i:Int)+1 by omega];exact aO (ay (by omega) (by have:=OJ.fits;rw[xU] at this;omega)))) ?_)))))))
   refine zM rfl (aE.any rfl rfl rfl rfl (OpR.call rfl rfl rfl rfl (I5 hW (i:=e.2.i+1) s (aY _ _) (aY _ _) OJ (by omega) (by omega))) ?_)
   rintro v0 h (⟨dN,ub,b',rfl,DZ,s⟩|⟨Ba,rfl,s⟩)
   ·skip
    refine zM rfl (zO rfl (gB rfl rfl) (zO rfl (gB rfl rfl) (zA rfl (zA rfl ?_))))
    refine aE.nil ⟨⟨aa,aa,aa,aa,aa,aa,aa,aa,aa,aa,aa,aa,aa,aa,aa,aa⟩,?_⟩
    refine zK 5 rfl (WP.block (zg rfl (zB rfl ej (rfl) (zk 6 rfl (zY s 4 oc uY rfl (zn rfl (zY s 3 qA bZ rfl (zm rfl (zc rfl (Jl hW hB g1 g3 Dy.2 (s.ae [9]) (aK _ _) DZ.good) ?_)))))))))
    rintro v0 h ⟨t_,rfl,w1,w2,w3,s⟩
    have Co:∀q:Int,pgG (cY (e.2.pg:Int) b' J) t_ q=if (e.2.pg:Int)=q then b' else pgG J rU q:=fun q=>by rw[fU,nu w2]
    generalize U9:cY (e.2.pg:Int) b' J=xB at s Co w3
    refine zk 2 rfl (WP.ret ⟨aa,_,rfl,?_⟩)
    have r1':=r1.frame (P':=pgG xB t_) fun q hq=>by
     have:=acn q hq
     rw[Co,ax (by omega)]
    have r2':=r2.frame (P':=pgG xB t_) fun q hq=>by
     have:=aco q hq
     rw[Co,ax (by omega)]
    obtain⟨QU,cs',t1,t2,t3⟩:=js.Y3 r1' r2' (by rw[Co,aH rfl];exact DZ) (fun _=>by
     unfold iM
     rw[ax (by omega),j9 (by omega),xU]
     omega)
    rw[r3] at t1
    refine⟨t_,xB,w1,b2.trans (d2.trans (g2.trans w2)),w3,s.skip 9,.inr ⟨rfl,M1,L,cs',QU,c4.frame ?_ ?_,xC.perm (t3.symm.append_right ot),t1,t2,by omega,fun q hq => ?_⟩⟩
    ·rw[Co,ax (by omega),I,ax (by omega),Ae,ax (by omega)]
    ·rw[Co,ax (by omega),I,ax (by omega),Ae,ax (by omega)]
    ·have:=Y6 q hq
     rw[Co,ax (by omega),hold q (.inr (.inr hq))]
   ·skip
    refine zM rfl (zO rfl (gB rfl rfl) (zO rfl (gB rfl rfl) (zA rfl (zA rfl ?_))))
    refine aE.nil ⟨⟨aa,aa,aa,aa,aa,aa,aa,aa,aa,aa,aa,aa,aa,aa,aa,aa⟩,?_⟩
    refine zK 5 rfl (WP.block (zg rfl (zC rfl ej (rfl) (zk 5 rfl (zB rfl ej (rfl) (zk 4 rfl ?_))))))
    have adN:=pG (s.ae [5])
    have adO:e.2.ks.length≤512:=by have:=OJ.fits;omega
    have tU:=(s.aq (k:=1) rfl (aY _ _))
    have wC:=jZ tU
    have Dm:=s.aa3 (j:=7) (b:=t.length+1) rfl
    have D1:(gZ (e::t)++[(x,i)]).length=t.length+2:=nL
    have z0:=s
    refine WP.HT [some (0,4),some (0,4),some (0,4),some (0,4),some (0,4),some (0,4),af,af,af,af,af,af,some (0,3),some (0,3),some (0,3),some (0,2),af,af,af,af] rfl (by kernel_rfl) (by kernel_rfl) ?_
    refine zM rfl (zM rfl (zM rfl (zO rfl (aC (r:=.int .i64 ((t.length+2:Nat):Int)) rfl rfl rfl (by rw[←D1];exact s.DV (j:=7) rfl fo)) ?_)))
    refine zO rfl (az (r:=.int .i64 ((t.length+1:Nat):Int)) rfl rfl (by rw[show((t.length+1:Nat):Int)=((t.length+2:Nat):Int)-1 by omega];exact ei (ay (by omega) (by omega)))) ?_
    refine zO rfl (bS (p:=none) (q:=some (.int .i64 ((t.length+1:Nat):Int))) (m:=none) (p':=none) (q':=some (t.length+1)) (m':=none) rfl rfl rfl rfl rfl (by rw[b9 (by omega)];rfl) rfl (s.DW (j:=7) rfl (b:=t.length+1) fo pV (by omega))) ?_
    refine zF rfl (oc _ _) (zL rfl (s.ld (k:=3) rfl uY rfl) (zN rfl (zF rfl (eW _ _) (zL rfl (s.ld (k:=2) rfl je rfl) (aE.any rfl rfl rfl rfl (OpR.call rfl rfl rfl rfl (z_ hW (s.ae [4]) (ry _ _ _).s (by omega))) ?_)))))
    intro cl h s
    have s:=s.ae [0,0,1,2,2,1,1,1]
    dsimp only[aT,bringA,getA] at s
    have z1:=s
    refine zF rfl (C9 _ _) (zL rfl (s.ld (k:=3) rfl bZ rfl) (zO rfl (az (r:=.int .i64 ((e.2.i+1:Nat):Int)) rfl rfl (by rw[show((e.2.i+1:Nat):Int)=(e.2.i:Int)+1 by omega];exact aO (ay (by omega) (by omega)))) ?_))
    refine zM rfl (aE.any rfl rfl rfl rfl (OpR.of (R:=fun v h'=>v=.sl h.next 0 1 (.exact 1)∧h'=h.new (.cells 1 [kc] false)) (gI rfl (TF bh k8 eZ rfl tU.cells.1 tU.cells.2)) ⟨rfl,rfl⟩) ?_)
    rintro v' h' ⟨rfl,rfl⟩
    have s:=s.new (.cells 1 [kc] false)
    have Ju:=s.ae [0,0,0,0,0,0,0,1]
    dsimp only[bringA,getA,aT] at Ju
    refine aE.any rfl rfl rfl rfl (OpR.call rfl rfl rfl rfl (QS hT (s.ae [1]) tU.cells.2 (by omega) (by omega))) ?_
    intro iv h s
    have z3:=s
    have s:=(s.ae [4]).dup (aJ.rK _ _)
    dsimp only[aT,bringA] at s
    have s:=L4 (i:=e.2.i+1) (s.ae [4,0])
    dsimp only[aT,bringA] at s
    have s:=((s.ae [2]).rz).dG Nw
    dsimp only[aT,bringA] at s
    have s:=s.ae [5,7,3,2]
    dsimp only[bringA,getA,aT] at s
    have s:Sat h (cH e.1 e.2.pg (l+1) (pgG now ε e.2.pg) (kisC e.2.ks)::_):=bQ.2 ⟨ZJ,Va,use,s⟩
    have s:=ZC (b:=t.length+1) (by omega) (by omega) (s.ae [5])
    dsimp only[aT,bringA] at s
    have qi:(gZ (e::t)++[(x,i)]).take (t.length+1)=gZ t++[(e.1,e.2.i)]:=by
     rw[tZ,gj (by rw[aX,NL];rfl)]
    rw[qi,←Kv (P':=pgG J rU) (fx:=t) fun e' By=>hold e'.2.pg (.inl (pP.pgs e'.2 (bR _ (vr By))))] at s
    have s:=(s.del 4).ae [5,2,2,0,0,0]
    dsimp only[aT,bringA,getA] at s
    have FL:tot (cN (e.2.i+1) (ie z (fN l ck)) (kisC e.2.ks))=tot (kisC e.2.ks)+(ie z (fN l ck)).length:=xq
    have yD:(cN (e.2.i+1) (ie z (fN l ck)) (kisC e.2.ks)).length=e.2.ks.length+1:=by rw[j9 (by omega),xU]
    have hft:=OJ.fits
    refine aE.any rfl rfl rfl rfl (OpR.call rfl rfl rfl rfl (ih t (l+1) e.1 e.2.pg e.2.i kx iB mE lC lD _ _ _ UR LL iv _ _ rU J M1 L h S (by simp only[aZ] at hm;omega) g1 g3 (c4.frame (by rw[I,ax (by omega),Ae,ax (by omega)]) (by rw[I,ax (by omega),Ae,ax (by omega)])) xC r1 r2 (by rw[kK,FL,yD];omega) (by rw[ax (by omega),kK,FL,yD];omega) (by simp only[aZ] at hL;omega) aci s)) ?_
    rintro v0 h ⟨t_,xB,w1,w2,w3,s,rO⟩
    refine zA rfl ?_
    refine aE.nil ⟨⟨⟨fun _ _=>.inr ⟨rfl,⟨_,bV rfl⟩,bj _ rfl⟩,fun _ _=>.inr ⟨rfl,⟨_,bV rfl⟩,Dm.1⟩,fun _ _=>.inr ⟨rfl,⟨_,bV rfl⟩,Dm.1⟩,yJ (.inr ⟨rfl,⟨_,aC (r:=.int .i64 ((t.length+2:Nat):Int)) rfl rfl rfl (by rw[←D1];exact z0.DV (j:=7) rfl fo)⟩,bj _ rfl⟩) (.inr ⟨rfl,⟨_,aC (r:=.int .i64 ((t.length+2:Nat):Int)) rfl rfl rfl (by rw[←D1];exact z1.DV (j:=7) rfl fo)⟩,bj _ rfl⟩) (.inr ⟨rfl,⟨_,aC (r:=.int .i64 ((t.length+2:Nat):Int)) rfl rfl rfl (by rw[←D1];exact Ju.DV (j:=7) rfl fo)⟩,bj _ rfl⟩) (.inr ⟨rfl,⟨_,aC (r:=.int .i64 ((t.length+2:Nat):Int)) rfl rfl rfl (by rw[←D1];exact z3.DV (j:=7) rfl fo)⟩,bj _ rfl⟩),fun _ _=>.inr ⟨rfl,⟨_,az (r:=.int .i64 ((t.length+1:Nat):Int)) rfl rfl (by rw[show((t.length+1:Nat):Int)=((t.length+2:Nat):Int)-1 by omega];exact ei (ay (by omega) (by omega)))⟩,bj _ rfl⟩,yJ (.inr ⟨rfl,⟨_,bS (p:=none) (q:=some (.int .i64 ((t.length+1:Nat):Int))) (m:=none) (p':=none) (q':=some (t.length+1)) (m':=none) rfl rfl rfl rfl rfl (by rw[b9 (by omega)];rfl) rfl (z0.DW (j:=7) rfl (b:=t.length+1) fo pV (by omega))⟩,Dm.2⟩) (.inr ⟨rfl,⟨_,bS (p:=none) (q:=some (.int .i64 ((t.length+1:Nat):Int))) (m:=none) (p':=none) (q':=some (t.length+1)) (m':=none) rfl rfl rfl rfl rfl (by rw[b9 (by omega)];rfl) rfl (z1.DW (j:=7) rfl (b:=t.length+1) fo pV (by omega))⟩,Dm.2⟩) (.inr ⟨rfl,⟨_,bS (p:=none) (q:=some (.int .i64 ((t.length+1:Nat):Int))) (m:=none) (p':=none) (q':=some (t.length+1)) (m':=none) rfl rfl rfl rfl rfl (by rw[b9 (by omega)];rfl) rfl (Ju.DW (j:=7) rfl (b:=t.length+1) fo pV (by omega))⟩,Dm.2⟩) (.inr ⟨rfl,⟨_,bS (p:=none) (q:=some (.int .i64 ((t.length+1:Nat):Int))) (m:=none) (p':=none) (q':=some (t.length+1)) (m':=none) rfl rfl rfl rfl rfl (by rw[b9 (by omega)];rfl) rfl (z3.DW (j:=7) rfl (b:=t.length+1) fo pV (by omega))⟩,Dm.2⟩),aa,aa,aa,aa,aa,aa,fun _ _=>.inr ⟨rfl,⟨_,lU rfl (C9 _ _)⟩,bj _ rfl⟩,C4 (.inr ⟨rfl,⟨_,o_load rfl (z0.ld (k:=3) rfl bZ rfl)⟩,bj _ rfl⟩) (.inr ⟨rfl,⟨_,o_load rfl (z1.ld (k:=3) rfl bZ rfl)⟩,bj _ rfl⟩) (.inr ⟨rfl,⟨_,o_load rfl (Ju.ld (k:=4) rfl bZ rfl)⟩,bj _ rfl⟩),fun _ _=>.inr ⟨rfl,⟨_,az (r:=.int .i64 ((e.2.i+1:Nat):Int)) rfl rfl (by rw[show((e.2.i+1:Nat):Int)=(e.2.i:Int)+1 by omega];exact aO (ay (by omega) (by omega)))⟩,bj _ rfl⟩,fun _ _=>.inr ⟨rfl,⟨_,bV rfl⟩,wC⟩,aa,aa,aa,aa,aa⟩,.inl rfl,.inl rfl,.inl rfl,.inl rfl,.inl rfl,.inl rfl,.inl rfl,.inl rfl,.inl rfl,.inl rfl,.inl rfl,.inl rfl,.inl rfl,.inl rfl,.inl rfl,.inl rfl,.inr rfl,.inl rfl,.inl rfl,.inl rfl,aa⟩,?_⟩
    refine WP.ret ⟨aa,_,rfl,?_⟩
    refine⟨t_,xB,w1,b2.trans (d2.trans (g2.trans w2)),w3,s,?_⟩
    rw[r3] at rO
    rcases rO with⟨q,q2⟩|⟨q,M',L',cs',QU,y1,y2,y3,y4,y5,y6⟩
    ·exact .inl ⟨q,by
      have FH:=r4.length_eq
      simp only[aX,aZ] at FH q2 ⊢
      omega⟩
    ·exact .inr ⟨q,M',L',cs',QU,y1,y2,y3,y4,y5,fun m hm=>(y6 m hm).trans (hold m (.inr (.inr hm)))⟩
end
def D2 (N root:Nat)(R ot:List Nat)(P0 P':Int→List Nat)(es:List En): Prop:=∃M' J cs' I,ir N R M' P'∧mY N M' ((root::I)++ot)∧Nv iM P' J [] none cs' es I∧cm (P' root) 204 0 J cs'∧J≤64∧∀m∈ot,P' (m:Nat)=P0 m
section
variable {told:cy} {p root:Nat} {b0:List Nat} {e0:Nat} {DY:List (List Nat)} {v ov:V} {was:Bool}
noncomputable def tpT : Code:=cE [1,1,1,1,1,1,1,1,1,1] ((Tryz.f14.body).getD .skip)
theorem xD (hT:WI told)(hB:B≤2000)(hN:N≤2999)(dL:EI N B ε)(hw:NW N now)(jW:ir N R M (pgG now ε))(ql:mY N M ((pO++[n])++ot))(pP:js iM (pgG now ε) L root (fx.map (·.2)) 0 lo hi n eL eR pO)(lB:jH lo hi mg)(h_:mg≠[])(nL:fx.length=L)(hL:L≤60)
 (hA:(e0=0∧∃b',cm b' 204 0 0 (mg.map dU)∧Sat h (GA g a p q r data bA now ε::aQ pv b'::cH x n 0 b0 DY::S)) ∨
   (e0=7∧486<dY (mg.map dU)∧dY (mg.map dU)≤715∧Sat h (GA g a p q r data bA now ε::.arr 1 v us::dD us (mg.map dU)::wyA w (gZ fx++[(x,0)])::cH x n 0 b0 DY::nodsA (pgG now ε) 1 fx::S)))(hE:Has E [(0,.ptr g 0),(8,ov),(10,.int .i64 (e0:Int)),(11,w),(12,.ptr x 0),(14,.bool was),(16,v),(17,pv)])
 (hq:∀E' h' aj bH,EI N B aj→Sm N ε aj→NW N bH→Sat h' (GA g a p q r data bA bH aj::S) →
   ((Has E' [(8,.aV),(9,.bool false),(10,.int .i64 7)]∧N≤((pO++[n])++ot).length+L+3)∨Has E' [(8,ov),(9,.bool was),(10,.int .i64 0)]∧D2 N root R ot (pgG now ε) (pgG bH aj) (eL++mg++eR))→Q .ret E' h'): WP ⟨Tryz.prog,told⟩ 112 tpT E h Q:=by
 have hW:=hT.w
 have Ac:Nv iM (pgG now ε) 0 lo hi (mg.map dU) mg []:=⟨rfl,lB,rfl⟩
 have FJ:=ql.tY n (by simp)
 rcases hA with⟨rfl,b',DZ,s⟩|⟨rfl,BJ,v8,s⟩
 ·have s:=s.ae [2]
  obtain⟨U5,U6,us0,s⟩:=bQ.1 s
  refine WP.has hE (zK 4 rfl (zC rfl ej (rfl) (zk 5 rfl (zB rfl ej (rfl) (zk 6 rfl (zY s 0 qA bZ rfl (zm rfl ?_)))))))
  have s:=s.ae [4,4]
  refine zc rfl (Jl hW hB dL hw FJ.2 s (aK _ _) DZ.good) ?_
  rintro v0 h ⟨t_,rfl,w1,w2,w3,s⟩
  have I:∀q:Int,pgG (cY (n:Int) b' now) t_ q=if (n:Int)=q then b' else pgG now ε q:=fun q=>by rw[fU,nu w2]
  generalize U9:cY (n:Int) b' now=J at s I w3
  refine zk 6 rfl (zC rfl aN (rfl) (zk 11 rfl (WP.ret ?_)))
  have gW:=ql.nd
  rw[eB,vA] at gW
  have Cn:=gW.2.1
  rw[g9,sI] at Cn
  obtain⟨QU,cs',t1,t2,t3⟩:=js.Y3 (pP.frame (P':=pgG J t_) fun q hq=>by
   have:q≠n:=fun e=>gW.2.2 q hq n (by simp) e
   rw[I,ax (by omega)]) (Ac.frame fun q hq=>by cases hq) (by rw[I,aH rfl];exact DZ) (fun _=>by
   unfold iM
   rw[aH rfl]
   simpa using h_)
  refine hq _ _ t_ J w1 w2 w3 (s.skip 5) (.inr ⟨⟨rfl,rfl,rfl,aa⟩,M,L,cs',QU,jW.frame ?_ ?_,ql.perm (t3.symm.append_right ot),t1,t2,by omega,fun m hm => ?_⟩)
  ·rw[I,ax (by omega)]
  ·rw[I,ax (by omega)]
  ·have:m≠n:=fun e=>Cn.1 (by rw[←e];exact kD _ hm)
   rw[I,ax (by omega)]
 ·have s:=((s.ae [1]).rz).dG Nw
  have s:=s.ae [1,0]
  refine WP.has hE (zK 4 rfl (zB rfl ej (rfl) (zk 6 rfl (zc rfl (TG (ot:=ot) (root:=root) (R:=R) hT hB hN (fx.length+1) fx 0 x n 0 lo hi eL eR pO (mg.map dU) DY b0 mg [] v w us ε now M L h S (sF _) dL hw jW ql pP Ac BJ (by rw[aH rfl];exact v8) (by omega) hL s) ?_))))
  rintro v0 h ⟨t_,J,w1,w2,w3,s,(⟨rfl,BU⟩|⟨rfl,rO⟩)⟩
  ·skip
   exact zk 6 rfl (zB rfl aN (rfl) (zk 9 rfl (WP.ret (hq _ _ t_ J w1 w2 w3 s (.inl ⟨⟨rfl,rfl,rfl,aa⟩,by rw[←nL];exact BU⟩)))))
  ·skip
   exact zk 6 rfl (zC rfl aN (rfl) (zk 11 rfl (WP.ret (hq _ _ t_ J w1 w2 w3 s (.inr ⟨⟨rfl,rfl,rfl,aa⟩,rO⟩)))))
end
theorem QV {f:V→α→aI}{a b:PM}{c:α}: ∀ {l:List V} {m:List α} (k:Nat),(each f l m).p a b→(f u c).p a b→(each f (l.set k u) (m.set k c)).p a b:=by
 intro l
 induction l with
 |nil=>intro m k h _;cases m with
  |nil=>exact h
  |cons x m=>exact h.elim
 |cons v l I=>intro m k h hu;cases m with
  |nil=>exact h.elim
  |cons x m=>cases k with
   |zero=>exact⟨hu,h.2⟩
   |succ k=>exact⟨h.1,I k h.2 hu⟩
theorem ZK {b c:Nat}{x:V}(I:look E a=some x)(J:look E b=some y)(hc:look E c=some z): resLE P E h [.tmp a,.tmp b,.tmp c]=some (.aW [x,y,z]):=by
 simp only[resLE,mapO,resE,I,J,hc]
section
variable {told:cy} {p root:Nat} {k val:List Nat}
theorem WL (s:Sat h (l9 u c::dD us cs::S)): Sat h (dD (us.set i u) (cs.set i c)::S) :=
 s.two (aJ.bK _ _) (aJ.rK _ _) fun m r a b=>QV i b a
def Cp (v:V)(o:Option (List Nat)): aI:=match o with
 |none=>.pu (v=.aV)
 |some l=>aQ v l
theorem WM (hT:WI told)(hB:B≤2000)(hN:N≤2999)(dL:EI N B ε)(hw:NW N now)(jW:ir N R M (pgG now ε))(ql:mY N M ((root::ps)++ot))(Ac:Nv iM (pgG now ε) L [] none cs es ps)(hp:cm (pgG now ε root) 204 0 L cs)(hL:L≤60)(hX:bX X (b5 kv k))(hY:bX Y (b5 vv val))(hk:1≤k.length∧k.length≤96)(xT:val.length≤128)
 (s:Sat h (GA g a p q r data bA now ε::X::Y::S)):
  Call ⟨Tryz.prog,told⟩ 14 [.ptr g 0,.int .i64 (root:Int),kv,vv] h fun v h'=>∃aj bH,EI N B aj∧Sm N ε aj∧NW N bH∧((v=.aW [.aV,.bool false,.int .i64 7]∧N≤((root::ps)++ot).length+L+3∧Sat h' (GA g a p q r data bA bH aj::X::Y::S)) ∨
   (∃ov,v=.aW [ov,.bool (fb es k).isSome,.int .i64 0]∧Sat h' (GA g a p q r data bA bH aj::Cp ov (fb es k)::X::Y::S)∧D2 N root R ot (pgG now ε) (pgG bH aj) (ke es k val))):=by
 have hW:=hT.w
 have Br:=ql.tY root (by simp)
 refine Call.of_wp (hW.free _ rfl) Tryz.func14 rfl rfl (zK 10 rfl (zc rfl (Jk hW (s.ae [1]) hX) ?_))
 rintro v h' ⟨rfl,rfl⟩
 rw[dy hk]
 refine zh rfl (eG rfl rfl) (rfl) (zk 2 rfl (zo rfl (aC rfl rfl rfl (au ak (s.aq (k:=2) rfl hY))) (zC rfl cL (decide_eq_false (by omega)) ?_)))
 refine zk 7 rfl (zo rfl (qR rfl (mki_of kU rfl)) (zk 2 rfl (zc rfl (NG hT.toWB (Jg hW hB hw) (by omega) (by omega) hX Ac hp dL rfl Br.2 (fun m hm=>(ql.tY m (by simp[hm])).2) s) ?_)))
 rintro v h ⟨w,x,n,lo,hi,eL,eR,pO,es',fx,J,rfl,q1,q2,q3,q4,q5,q6,q7,q8,q9,r8,s⟩
 have Aa:(gZ fx).length=L:=by rw[gZ,ju,cq,r8]
 have nL:(gZ fx++[(x,0)]).length=L+1:=by rw[aX,Aa];rfl
 obtain⟨id,off,e1,e2,_⟩:=xy (P:=Tryz.prog) (j:=L) (x:=x) (i:=0) fo pV (by rw[g8 (by omega),Aa,gG];rfl) s
 have acp:es'.length≤512:=by have:=q3.fits;rw[cq] at this;omega
 refine zk 10 rfl (zC rfl aN (rfl) (zk 7 rfl (zo rfl (aC rfl rfl rfl (s.eY (j:=0) (n:=L+1) rfl (by rw[kg,nL]) (by decide) fo)) ?_)))
 refine zo rfl (az (r:=.int .i64 (L:Int)) rfl rfl (by rw[show((L:Nat):Int)=((L+1:Nat):Int)-1 by omega];exact ei (ay (by omega) (by omega)))) ?_
 refine zo rfl (bx (r:=.ptr id off) rfl rfl e1) (zf rfl (oc _ _) (zl rfl (e2 _ uY) (zk 6 rfl (zc rfl (Cg hT.toWB hX q2 acp (s.ae [1,3])) ?_))))
 rintro v h ⟨i,rfl,hl,s⟩
 refine zk 10 rfl (zc rfl (Wy hW (s.ae [1,4]) hX hY (by omega) (by omega)) ?_)
 intro cb h s
 have rY:=(s.aq (k:=0) rfl (aK _ _)).cells
 have s:=U2 (by omega) (s.fD.ae [4])
 have s:=s.ae [4]
 obtain⟨bv,cv,us,s⟩:=bQ.1 s
 have qp:=pG (s.ae [3])
 rw[cq] at qp
 refine zk 6 rfl (zY s 0 eW je rfl (zc rfl (z_ hW (s.ae [2]) (ry _ _ _).s (by omega)) ?_))
 intro cl h s
 have s:=s.ae [0,0,0,0,0,0,0,2,2]
 obtain⟨QW,Vb⟩:=q1.side q7
 have ki:pgG now J=pgG now ε:=nu q6
 rw[←ki] at s
 have Fk:ir N R M (pgG now J):=by rw[ki];exact jW
 have xC:mY N M ((pO++[n])++ot):=ql.perm (q9.symm.append_right ot)
 have NM:js iM (pgG now J) L root (fx.map (·.2)) 0 lo hi n eL eR pO:=by rw[ki];exact q1
 have Ad:=q2.put (v:=val) hl q7 hk.1 hk.2 xT
 have Cc:ke es k val=eL++xw es' i (sameE es' k i) (k,val)++eR:=by
  rw[←q8]
  exact Tb (by rw[q8];exact Ac.ok.jX) hl QW Vb
 have pJ:fb es k=fb es' k:=by rw[←q8];exact Jp QW Vb
 have m6:cm (pgG now J n) 204 0 0 (es'.map dU):=by rw[ki];exact q3
 have dN:=m6.fits
 rw[cq] at dN
 have LI:(dU (k,val)).length≤225:=by simp[dU];omega
 have fin:∀ {ov:V} {o:Option (List Nat)} {E':List (Nat×V)} {h':H} {aj:bw} {bH:List (Int×List Nat)},fb es' k=o→EI N B aj→Sm N J aj→NW N bH→Sat h' (GA g a p q r data bA bH aj::Cp ov o::X::Y::S) →
   ((Has E' [(8,.aV),(9,.bool false),(10,.int .i64 7)]∧N≤((pO++[n])++ot).length+L+3)∨Has E' [(8,ov),(9,.bool o.isSome),(10,.int .i64 0)]∧D2 N root R ot (pgG now J) (pgG bH aj) (eL++xw es' i (sameE es' k i) (k,val)++eR)) →
   ∃v,resLE Tryz.prog E' h' [.tmp 8,.tmp 9,.tmp 10]=some v∧∃aj bH,EI N B aj∧Sm N ε aj∧NW N bH∧((v=.aW [.aV,.bool false,.int .i64 7]∧N≤((root::ps)++ot).length+L+3∧Sat h' (GA g a p q r data bA bH aj::X::Y::S)) ∨
    (∃ov,v=.aW [ov,.bool (fb es k).isSome,.int .i64 0]∧Sat h' (GA g a p q r data bA bH aj::Cp ov (fb es k)::X::Y::S)∧D2 N root R ot (pgG now ε) (pgG bH aj) (ke es k val))):=by
  intro ov o E' h' aj bH ho w1 w2 w3 s' I
  rcases I with⟨⟨r1,r2,r3,_⟩,BU⟩|⟨⟨r1,r2,r3,_⟩,ht⟩
  ·exact⟨_,ZK r1 r2 r3,aj,bH,w1,q6.trans w2,w3,.inl ⟨rfl,by have:=q9.length_eq;simp only[aX,aZ,bI] at this BU ⊢;omega,s'.del 1⟩⟩
  ·exact⟨_,ZK r1 r2 r3,aj,bH,w1,q6.trans w2,w3,.inr ⟨ov,by rw[pJ,ho],by rw[pJ,ho];exact s',by rw[Cc,←ki];exact ht⟩⟩
 cases hq:sameE es' k i with
 |true =>
  rw[hq] at Ad fin
  obtain⟨e,he,zW⟩:=Jq hq
  have ho:=LY q2.nodup he zW
  obtain⟨c1,c2,c3⟩:=wq q2 he
  have gC:=(List.getElem?_eq_some_iff.1 he).1
  have kR:(xw es' i true (k,val)).map dU=(es'.map dU).set i (dU (k,val)):=AB
  have s:=(s.ae [4]).dup (aJ.rK _ _)
  have s:=s.ae [4,4,3,0]
  have s:Sat h (cH x n 0 (pgG now J n) (es'.map dU)::_):=bQ.2 ⟨bv,cv,us,s⟩
  refine zk 16 rfl (zc rfl (Fp hW c1 c2 c3 s) ?_)
  rintro bv2 h s
  rw[Fu] at s
  refine zc rfl (rL hW s (aY _ _) (by have:=(q2.sz e (aR he)).2.2;omega)) ?_
  intro ov h s
  have s:=((s.del 1).ae [3]).dG wA
  obtain⟨ZL,TI,h4,e4,e5,s4⟩:=DX (P:=Tryz.prog) (i:=i) (x:=cb) s (by omega) rY.1 rY.2 bh eZ
  refine zk 7 rfl (zo rfl (bx (r:=.ptr ZL TI) rfl rfl e4) (zS rfl (⟨_,e5,s4⟩) ?_))
  intro h s
  have s:=s.ae [2]
  obtain⟨bv3,cv3,us3,s⟩:=bQ.1 s
  have s:=s.ae [1,7]
  refine zk 4 rfl (zY s 2 ET ah rfl (zk 2 rfl (zc rfl (Td hW (i:=i) s (aY _ _) (aY _ _) m6 c1 (by omega)) ?_)))
  have tq:=qh (c':=dU (k,val)) c1
  have h_:xw es' i true (k,val)≠[]:=Ec (by show 0<(es'.set i (k,val)).length;rw[bT];omega)
  rintro v0 h (⟨hf,pv,b',rfl,DZ,s⟩|⟨hf,rfl,s⟩)
  ·have s:=s.ae [3,1,2,2]
   have s:Sat h (cH x n 0 (pgG now J n) (es'.map dU)::_):=bQ.2 ⟨bv3,cv3,us3,s⟩
   have s:=((((s.del 7).del 6).del 5).del 3).del 2
   have s:=s.ae [3,1,0,0]
   refine zk 6 rfl ?_
   refine xD (was:=true) (v:=cl) (us:=us) (w:=w) (e0:=0) (ot:=ot) (root:=root) (R:=R) (L:=L) hT hB hN q5 hw Fk xC NM Ad h_ r8 hL (.inl ⟨rfl,b',by rw[kR];exact DZ,s⟩) ⟨rfl,rfl,rfl,rfl,rfl,rfl,rfl,rfl,aa⟩ fun E' h' aj bH w1 w2 w3 s' I=>⟨aa,fin (o:=some e.2) ho w1 w2 w3 s' I⟩
  ·have s:=s.ae [2,0,1,1]
   have s:Sat h (cH x n 0 (pgG now J n) (es'.map dU)::_):=bQ.2 ⟨bv3,cv3,us3,s⟩
   have s:=WL (i:=i) (s.ae [1,3])
   have s:=s.ae [6,2,0,2,0,1,0]
   refine zk 6 rfl ?_
   refine xD (pv:=.aV) (was:=true) (v:=cl) (w:=w) (e0:=7) (ot:=ot) (root:=root) (R:=R) (L:=L) hT hB hN q5 hw Fk xC NM Ad h_ r8 hL (.inr ⟨rfl,by rw[kR,kK,bT];omega,by rw[kR,kK,bT,cq];omega,by rw[kR];exact s⟩) ⟨rfl,rfl,rfl,rfl,rfl,rfl,rfl,rfl,aa⟩ fun E' h' aj bH w1 w2 w3 s' I=>⟨aa,fin (o:=some e.2) ho w1 w2 w3 s' I⟩
 |false =>
  rw[hq] at Ad fin
  have ho:=hl.none q2 hq
  have h_:xw es' i false (k,val)≠[]:=Ec (by show 0<(cN i (k,val) es').length;rw[j9 hl.le];omega)
  have kR:(xw es' i false (k,val)).map dU=cN i (dU (k,val)) (es'.map dU):=by simp[xw,cN,sM,sN]
  refine zk 17 rfl (aA.any rfl rfl rfl (OpR.of (R:=fun v h'=>v=.sl h.next 0 1 (.exact 1)∧h'=h.new (.cells 1 [cb] false)) (gI rfl (TF bh k8 eZ rfl rY.1 rY.2)) ⟨rfl,rfl⟩) ?_)
  rintro v' h' ⟨rfl,rfl⟩
  have s:=s.new (.cells 1 [cb] false)
  refine zc rfl (QS hT (s.ae [1]) rY.2 (by rw[qp];exact hl.le) (by omega)) ?_
  intro iv h s
  have s:=s.ae [3,5]
  refine zk 5 rfl (zY s 4 ET ah rfl (zk 2 rfl (zc rfl (I5 hW (i:=i) s (aY _ _) (aY _ _) m6 (by rw[cq];exact hl.le) (by omega)) ?_)))
  rintro v0 h (⟨hf,pv,b',rfl,DZ,s⟩|⟨hf,rfl,s⟩)
  ·have s:=s.ae [5,1,3,3]
   have s:Sat h (cH x n 0 (pgG now J n) (es'.map dU)::_):=bQ.2 ⟨bv,cv,us,s⟩
   have s:=((((s.del 5).del 4).del 3).del 2).fq (φ:=V.aV=.aV) rfl
   have s:Sat h (Cp .aV none::_):=s
   have s:=s.ae [3,2,1,0]
   refine zk 6 rfl ?_
   refine xD (was:=false) (v:=iv) (us:=us) (w:=w) (e0:=0) (ot:=ot) (root:=root) (R:=R) (L:=L) hT hB hN q5 hw Fk xC NM Ad h_ r8 hL (.inl ⟨rfl,b',by rw[kR];exact DZ,s⟩) ⟨rfl,rfl,rfl,rfl,rfl,rfl,rfl,rfl,aa⟩ fun E' h' aj bH w1 w2 w3 s' I=>⟨aa,fin (o:=none) ho w1 w2 w3 s' I⟩
  ·have s:=(s.ae [5]).dup (aJ.rK _ _)
   have s:=L4 (i:=i) (s.ae [3,0])
   have s:=s.ae [5,2,3,1]
   have s:Sat h (cH x n 0 (pgG now J n) (es'.map dU)::_):=bQ.2 ⟨bv,cv,us,s⟩
   have s:=s.fq (φ:=V.aV=.aV) rfl
   have s:Sat h (Cp .aV none::_):=s
   have s:=s.ae [6,3,2,2,1,1,0]
   dsimp only[aT,bringA,getA] at s
   refine zk 6 rfl ?_
   refine xD (pv:=.aV) (was:=false) (v:=iv) (w:=w) (e0:=7) (ot:=ot) (root:=root) (R:=R) (L:=L) hT hB hN q5 hw Fk xC NM Ad h_ r8 hL (.inr ⟨rfl,by rw[kR,kK,j9 (by rw[cq];exact hl.le),xq];omega,by rw[kR,kK,j9 (by rw[cq];exact hl.le),xq,cq];omega,by rw[kR];exact s⟩) ⟨rfl,rfl,rfl,rfl,rfl,rfl,rfl,rfl,aa⟩ fun E' h' aj bH w1 w2 w3 s' I=>⟨aa,fin (o:=none) ho w1 w2 w3 s' I⟩
end
end Go.Proofs.YtdonpgpfplgigaaGreat.Am
