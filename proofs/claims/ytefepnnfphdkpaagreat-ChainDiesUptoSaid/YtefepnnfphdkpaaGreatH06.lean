/- ChainDies: a part of its proof; conditions: its statement's. -/
import Derived.Test.YtefepnnfphdkpaaGreatH05
import Derived.Test.YtefepnnfphdkpaaGreatH02
import Derived.RangeFuncLeaves
set_option linter.defProp false
namespace Go.Proofs.YtefepnnfphdkpaaGreat.Am
open Go
def mA:=@Tryz.underlying56
def ry:=@Tryz.underlying83
def JM:=@Tryz.func31
def JN:=@Tryz.func50
def JO:=@Tryz.underlying270
variable {X Y:aL} {C:fc} {code mB:Code} {c':Ctx} {d:qR} {ε af:aX} {A:aX→aL} {lv dd:aX→Prop} {env:Env} {Q:Ex→List (Nat×V)→H→Prop} {fn:Func} {cl:Go.Call} {o:Go.Obj} {h σ:H} {P P' P0:Int→List Nat} {now:List (Int×List Nat)} {dy:List (List Nat)} {E Ee:List (Nat×V)} {S:List aL} {U:List Bool} {zs:List Int} {dX L M b R l c data ps M':List Nat} {cs args us Rt ds vs:List V} {n f i N tx K B aO a id k g q r aC link extra j left p4 p5 p6 p2 p3 z nx acc:Nat} {G:Prop} {e t t':TypeId} {y x rv cv pv bv u uv sv wv tv hv lnv kv:V} {w':World}
theorem yC : h_ (List.replicate 512 0)=0:=by rw[h_,aP rfl]
def fresh (n m f:Nat): aX:=(Pl.fresh f,(Lg.fresh,Dk.fresh n m))
theorem CP {m:Nat}(k:Int): (Dk.fresh n m).at k=List.replicate 512 0:=by
 rw[Dk.at,show lookL k (Dk.fresh n m).now=none from rfl]
 simp only[Dk.fresh]
 cases I:(List.replicate n (none:Option (List Nat)))[k.toNat]? with
 |none=>rfl
 |some o =>
  have:=we (bD I)
  subst this
  rfl
theorem qI {m:Nat}(k:Int): pgA (fresh n m f) k=List.replicate 512 0:=by
 rw[ot (by rfl)]
 exact CP k
theorem rz {x:Fm}(h:(Pl.fresh f).ai[i]?=some x): x=fA:=we (bD h)
theorem EI.fresh {m:Nat}(hn:n≤65536)(hm:m≤16777216)(hf:1≤f)(y7:f≤1024): EI n 1 (fresh n m f):=by
 have J:∀x∈(Pl.fresh f).ai,x=fA:=fun x I=>we I
 have hlen:(Pl.fresh f).ai.length=f:=fN
 refine⟨⟨⟨⟨(show 0<(Pl.fresh f).ai.length by rw[hlen];omega),(show(Pl.fresh f).ai.length≤1024 by rw[hlen];exact y7),fun e he=>(by cases he),fun x I=>by rw[J x I];decide,fun x I=>by rw[J x I];decide⟩,Lg.Jt,?_⟩,fun x I=>by rw[J x I];rfl,⟨kq,fun k i hk=>(by cases hk)⟩⟩,⟨?_,kq,fun k i hk=>(by cases hk),fun i x I=>.inl (by rw[rz I];decide),fun k hk=>(by cases hk),kq⟩,⟨rfl,aU _,(show(1:Nat)+0≤1*1048600 by decide)⟩,?_⟩
 ·exact⟨(show(-1:Int)<4294967296 by decide),fe _,hm,fun e he=>(by cases he),fun i b hb=>(by have h1:some b=none:=we (bD hb);cases h1),aU _,(show(List.replicate n (none:Option (List Nat))).length≤65536 by rw[fN];exact hn)⟩
 ·exact⟨rfl,(show(-1:Int)<0 by decide),fN,fun k hk=>(by cases hk),kq,fun k h0 h1=>by show h_ ((Dk.fresh n m).at k)=0;rw[CP];exact yC⟩
 ·have e:fU (Pl.fresh f).ai=0:=by
   rw[fU,List.count_eq_zero]
   intro hh
   obtain⟨x,I,hc⟩:=List.mem_map.1 hh
   rw[J x I] at hc
   cases hc
  show([]:List Wr).length+fU (Pl.fresh f).ai≤_
  rw[e];decide
theorem XS (h:n<128): (digits 9 n).length=1:=by
 grind[digits]
theorem MN (h:n<16384): (digits 9 n).length≤2:=by
 grind[digits]
theorem CQ {c:cq}(I:c.aM.toNat<16384)(J:c.pos.toNat<16384)(h3:c.b.length<16384): (kC c).length≤7+c.b.length:=by
 grind[MN,kC]
theorem XT {pg:Int}{now:List Nat}{l:List cq}(I:u6 pg dX now i l)(hn:now.length=512)(hp:pg.toNat<16384): ∀j,(∀k,i≤k→k<j→dX[k]?=now[k]?)→j≤520→(l.flatMap kC).length≤520-max i j:=by
 induction I with
 |done i h=>simp
 |skip i l h he I ih =>
  grind
 |take i e l h1 h2 h3 h4 I ih =>
  intro j hj hj2
  have yU:j≤i:=wA fun J=>h3 (hj i (aU _) J)
  have h5:=ih (e+8) h4 (by omega)
  have hl:((now.take e).drop i).length=e-i:=by grind
  have h6:=CQ (c:=⟨pg,i,false,(now.take e).drop i⟩) hp (by grind) (by grind)
  rw[wu,bV]
  simp only[hl] at h6
  omega
theorem XU {pg:Int}{now:List Nat}{c:List cq}(I:GP pg dX now c)(J:now.length=512)(hp:pg.toNat<16384): (c.flatMap kC).length≤520:=by
 obtain⟨l,hl,rfl⟩:=I
 have:=XT hl J hp 0 (fun k _ h=>absurd h (by omega)) (by omega)
 grind[CQ]
theorem ChR.Ce {l:List Int}{e:Int}{cs:List cq}(J:ChR now l ε e cs af)(hn:NW N now): (∀n∈l,n.toNat<16384)→(cs.flatMap kC).length≤520*l.length:=by
 induction J with
 |nil ε=>simp
 |err n l ε e b af J he=>simp
 |part n l ε dX b af c e cs I J hb jV hc je ht ih =>
  intro hl
  have h1:=XU hc (eB (hn.look hb).1) (hl n bZ)
  grind
 |whole n l ε dX b af e cs I J hb jV ht ih =>
  have nU:=eB (hn.look hb).1
  grind[CQ]
theorem yD {L:Nat}{e:Int}{cs:List cq}{kd:Int}(hr:ChR now (aF now) ε e cs af)(I:NW N now)(hL:now.length≤L)(hN:N≤16384)(ht:tx<16384): (dD kd tx 0 0 [] cs).length≤520*L+20:=by
 have h2:=MN ht
 have h4:=XS (n:=([]:List Nat).length) (by decide)
 have h5:=Lf cs.length
 have h6:=hr.Ce I fun n hm=>by have:=I.keys n (fB.1 hm);omega
 have J:(aF now).length≤L:=by
  rw[aF,(eL _).length_eq,jl];exact hL
 have J:=Nat.mul_le_mul_left 520 J
 simp only[dD,bV,bF,cG] at h4 ⊢
 omega
theorem sg (K M:Nat): jZ fun x=>x.2.log.length=K∧x.2.room=M:=by
 refine⟨fun x n h => ?_,fun x n b h => ?_⟩
 ·unfold aJ Dk.cg
  split
  ·exact h
  ·split
   ·exact h
   ·split
    ·exact h
    ·split<;>first|exact h|exact h
 ·unfold Dk.bz
  split
  ·exact h
  ·split
   ·exact h
   ·split<;>exact h
def vD (K M:Nat)(ε:aX): Prop:=ε.2.2.log.length≤K∧ε.2.2.room=M
theorem vD.sm {M:Nat}(h:vD K M ε)(hs:Sm N ε af): vD K M af:=by
 have:=hs.2.1 _ ((sg ε.2.2.log.length ε.2.2.room).kK N) ⟨rfl,rfl⟩
 exact⟨by rw[this.1];exact h.1,by rw[this.2];exact h.2⟩
theorem DnR.fits {M L kd:Nat}{e:Int}{cl:Bool}(hr:DnR ε now kd tx 0 0 [] 0 aO e cl af)(eY:EI N B ε)(hB:B≤1000)(hw:NW N now)(hL:now.length≤L)(hN:N≤1024)(h1:1≤kd)(h2:kd≤7)(GD:tx<16384)(hd:vD K M ε)(hf:K+520*L+28≤M):
  cl=true∧e=0∧vD (K+520*L+28) M af:=by
 have NB:∀n∈aF now,0≤n∧n<N:=fun n hq=>hw.keys n (fB.1 hq)
 obtain⟨hK,hM⟩:=hd
 have Oy:=eY.done hB hw (by omega) (by omega) hr
 cases hr with
 |arg hh=>omega
 |dead _ _ _ hd=>omega
 |kj e c af _ _ _ _ J Jl=>exact absurd (J.ec eY.ec eY.ok NB).2.2 Jl
 |app c I _ _ _ _ J Jl =>
  have m7:=yD (kd:=kd) J hw hL (by omega) GD
  have aeo:=yD (kd:=kd) J hw hw.len (by omega) GD
  have hP:=(sg ε.2.2.log.length ε.2.2.room).ch J ⟨rfl,rfl⟩
  grind[fh,cC,pV]
 |put c I e tW _ _ _ _ J ha hp =>
  rcases Oy with⟨je,_⟩|⟨_,he,_⟩
  ·grind
  ·refine⟨rfl,he,?_⟩
   have m7:=yD (kd:=kd) J hw hL (by omega) GD
   have hP:=(sg ε.2.2.log.length ε.2.2.room).ch J ⟨rfl,rfl⟩
   rcases fh I.2 kd tx 0 0 [] c with⟨e,he,uG,hq⟩|⟨_,hfu,hq⟩|⟨_,hb,nW,eX,hfu,hq⟩
   ·grind
   ·grind
   ·rw[hq] at hp
    have jM:=(sg (ε.2.2.log.length+(cC I.2.1 kd tx 0 0 [] c).length) ε.2.2.room).pt hp ⟨by grind,hP.2⟩
    have h3:(cC I.2.1 kd tx 0 0 [] c).length≤520*L+28:=by rw[cC,pV];omega
    exact⟨by omega,by omega⟩
def sdep : Code→Nat
 |.seq a b=>1+max (sdep a) (sdep b)
 |_=>1
def WPd (C:fc)(au:Nat)(code:Code)(E:List (Nat×V))(h:H)(d:qR)(Q:Ex→List (Nat×V)→H→qR→Prop): Prop :=
 ∀env,iX env E→∃N0 ex I h' E' J,(∀N m,N0≤N→sdep code≤m→evTop C N m code ⟨env,au,h⟩ d=some (ex,⟨I,au,h'⟩,J))∧iX I E'∧Q ex E' h' J
section
variable {au:Nat} {Q:Ex→List (Nat×V)→H→qR→Prop}
def noDef : List Oper→Bool
 |[]=>true
 |o::l=>(match o.op with
  |.defer _=>false
  |_=>true)&&noDef l
def noDefC : Code→Bool
 |.seq a b=>noDefC a&&noDefC b
 |.region _ ops false=>noDef ops.toList
 |_=>true
theorem Rp {self:Self}{L:List Oper}: ∀ {l:List Oper} {s s':St},noDef l=true→evOps C self L l s=some s'→evOpsD C self L l s d=some (s',d):=by
 intro l
 induction l<;>grind[evOps,noDef,evOpsD]
theorem evTop_of : ∀ {code:Code} {n:Nat} {s:St} {ex:Ex} {s':St} {d:qR},noDefC code=true→ev C n code s=some (ex,s')→∀N m,n≤N→sdep code≤m→evTop C N m code s d=some (ex,s',d):=by
 have leaf:∀ {code:Code} {n:Nat} {s:St} {ex:Ex} {s':St} {d:qR} {N m:Nat},(∀m,evTop C N (m+1) code s d=match ev C N code s with
   |some (ex,s')=>some (ex,s',d)
   |none=>none)→ev C n code s=some (ex,s')→n≤N→1≤m→evTop C N m code s d=some (ex,s',d):=fun {code n s ex s' d N m} he I J hm=>by
  obtain⟨k,rfl⟩:∃k,m=k+1:=⟨m-1,by omega⟩
  rw[he,dA J _ _ _ I]
 intro code
 induction code with
 |seq a b iha ihb =>
  intro n s ex s' d hn I N m J hm
  simp only[noDefC,bQ] at hn
  simp only[sdep] at hm
  obtain⟨k,rfl⟩:∃k,m=k+1:=⟨m-1,by omega⟩
  cases n with
  |zero=>cases I
  |succ n =>
   rw[jA] at I
   simp only[evStep] at I
   cases ha:ev C n a s with
   |none=>grind
   |some r =>
    obtain⟨e1,s1⟩:=r
    have h1:=iha (d:=d) hn.1 ha N k (by omega) (by omega)
    simp only[evTop,h1]
    rw[ha] at I
    cases e1 with
    |normal=>exact ihb hn.2 I N k (by omega) (by omega)
    |exit i=>grind
    |ret=>grind
 |region id ops draw =>
  intro n s ex s' d hn I N m J hm
  cases draw with
  |true=>exact leaf (fun m=>rfl) I J hm
  |false =>
   obtain⟨k,rfl⟩:∃k,m=k+1:=⟨m-1,by have:1≤m:=hm;omega⟩
   cases n with
   |zero=>cases I
   |succ n =>
    rw[jA] at I
    simp only[evStep,aY] at I
    cases ho:evOps C (ev C n) ops.toList ops.toList s with
    |none=>grind
    |some s1 =>
     rw[ho] at I
     obtain⟨rfl,rfl⟩:=I
     have h2:=qQ (dA (C:=C) (show n≤N by omega)) _ _ _ ho
     simp only[evTop,Rp (d:=d) hn h2]
 |_=>intro n s ex s' d hn I N m J hm;exact leaf (fun m=>rfl) I J hm
theorem WPd.of_wp (J:noDefC code=true)(hw:WP C au code E h fun ex E' h'=>Q ex E' h' d): WPd C au code E h d Q:=by
 intro env hE
 obtain⟨N,ex,I,h',E',h1,h2,h3⟩:=hw env hE
 exact⟨N,ex,I,h',E',d,fun M m hM hm=>evTop_of J h1 M m hM hm,h2,h3⟩
theorem WPd.seq {a b:Code}(hw:WPd C au a E h d fun ex E' h' J=>match ex with
  |.normal=>WPd C au b E' h' J Q
  |ex=>Q ex E' h' J): WPd C au (.seq a b) E h d Q:=by
 intro env hE
 obtain⟨N,ex,I,h',E',J,h1,h2,h3⟩:=hw env hE
 have one:∀M m,N≤M→sdep (.seq a b)≤m+1→evTop C M m a ⟨env,au,h⟩ d=some (ex,⟨I,au,h'⟩,J):=fun M m hM hm=>h1 M m hM (by simp only[sdep] at hm;omega)
 have out:(match ex with|.normal=>False|_=>True)→Q ex E' h' J→∃N0 ex I h' E' J,(∀N m,N0≤N→sdep (.seq a b)≤m→evTop C N m (.seq a b) ⟨env,au,h⟩ d=some (ex,⟨I,au,h'⟩,J))∧iX I E'∧Q ex E' h' J:=fun hx hq=>by
  refine⟨N,ex,I,h',E',J,fun M m hM hm => ?_,h2,hq⟩
  obtain⟨k,rfl⟩:∃k,m=k+1:=⟨m-1,by simp only[sdep] at hm;omega⟩<;>grind[evTop]
 cases ex with
 |normal =>
  obtain⟨K,mJ,yE,Is,E2,d2,g1,g2,g3⟩:=h3 I h2
  refine⟨max N K,mJ,yE,Is,E2,d2,fun M m hM hm => ?_,g2,g3⟩
  obtain⟨k,rfl⟩:∃k,m=k+1:=⟨m-1,by simp only[sdep] at hm;omega⟩<;>grind[sdep,evTop]
 |exit i=>simp_all
 |ret=>simp_all
theorem WPd.defer {ops:Array Oper}{I J:Oper}{x1 y:Operand}{v:V}{first cap:List V}(hL:ops.toList=[I,J])(g1:I.guard=none)(d1:I.dst=some k)(p1:I.op=.move x1)(hk:Nat.blt k au=true)(hx:bA E x1=some v)
 (g2:J.guard=none)(d2:J.dst=none)(p2:J.op=.defer cl)(hc:cl.callee=.value y)(hy:bA ((k,v)::E) y=some (.fn (.func g) first cap))(ha:lookArgs ((k,v)::E) cl.args.toList=some args)
 (hq:Q .normal ((k,v)::E) h ((g,first++args,cap)::d)): WPd C au (.region id ops false) E h d Q:=by
 intro env hE
 have VY:iX (env.set k (some v)) ((k,v)::E):=hE.set _ _
 refine⟨0,.normal,env.set k (some v),h,(k,v)::E,(g,first++args,cap)::d,fun M m _ hm => ?_,VY,hq⟩
 obtain⟨j,rfl⟩:∃j,m=j+1:=⟨m-1,by have:1≤m:=hm;omega⟩
 have e1:evOpsD C (ev C M) [I,J] [I,J] ⟨env,au,h⟩ d=some (⟨env.set k (some v),au,h⟩,(g,first++args,cap)::d):=by
  have BV:wantedV [I,J] env I=true:=by simp[wantedV,g1]
  have he1:evOp C (ev C M) env h I=some (v,h):=by simp only[evOp,p1,bU hE hx];rfl
  have T3:St.put ⟨env,au,h⟩ I.dst v h=some ⟨env.set k (some v),au,h⟩:=by grind[St.put]
  rw[evOpsD]
  grind[evOpsD,ki,bU]
 simp only[evTop,hL,e1]
theorem toldDefer_do {f:FuncId}{R:V→H→Prop}(hf:C.P.funcs[f]?=some fn)(hb:fn.body=some code)(hl:Nat.blt fn.ntmps args.length=false)(hdp:sdep code≤1000)
 (hw:WPd C fn.ntmps code (argE args 0) h [] fun ex E' h' d'=>(match ex with|.exit _=>False|_=>True)∧∃I v,(∃N0,∀N,N0≤N→runDefs C N d' h'=some I)∧resLE C.P E' I fn.results.toList=some v∧R v I):
  ∃v I,(∃N0,∀N,N0≤N→toldDefer C N f args h=some (v,I))∧R v I:=by
 obtain⟨N0,ex,J,h',E',d',h1,I,hx,h3,v,⟨N1,hr⟩,Cv,hR⟩:=hw _ (ur args)
 refine⟨v,h3,⟨max N0 N1,fun N hN => ?_⟩,hR⟩
 have e1:=h1 N 1000 (by omega) hdp
 have e3:resOf C.P ⟨J,fn.ntmps,h3⟩ fn.results.toList=some v:=by
  unfold resLE at Cv
  cases hm:mapO (resE C.P E' h3) fn.results.toList with
  |none=>grind
  |some vs =>
   have B1:=wT (P:=C.P) (s:=⟨J,fn.ntmps,h3⟩) I hm
   grind[resOf]
 unfold toldDefer
 simp only[hf,hb,hl,aY,e1]
 cases ex with
 |exit i=>grind
 |normal=>grind
 |ret=>grind
theorem Lh {g:FuncId}{v:V}{J:H}(ht:C.told g=none)(hf:C.P.funcs[g]?=some fn)(hb:fn.body=some code)(hq:quietParts code=none)(hc:gO C g args h v J): ∃I,∀N,I≤N→runDefs C N [(g,args,[])] h=some J:=by
 obtain⟨I,h0⟩:=hc
 refine⟨I,fun N hN => ?_⟩
 have e:=mR (dA (C:=C) hN) h0
 grind[runDefs,defCall]
end
def FQ (f:FuncId)(args:List V)(h:H)(r:V×H): Prop:=∃I,∀N,I≤N→toldDefer CB N f args h=some r
theorem Call.defer {told:cR}{f:FuncId}{R:V→H→Prop}(ht:told f=some (iZ Tryz.prog f (FQ f)))(hf:Tryz.prog.funcs[f]?=some fn)(hb:fn.body.isSome=true)
 (hd:∃v I,(∃J,∀N,J≤N→toldDefer CB N f args h=some (v,I))∧R v I): Call ⟨Tryz.prog,told⟩ f args h R:=by
 obtain⟨v,I,⟨J,h0⟩,hR⟩:=hd
 obtain⟨r,e1,N1,h1⟩:=sP (P:=Tryz.prog) (f:=f) (jj:=FQ f) (args:=args) (h:=h) (r:=(v,I)) ⟨J,h0⟩ (fun c w tq hw=>Iw (C:=CB) iy fF (h0 J (aU _)) tq hw)
 have:r=(v,I):=by
  have a:=h0 (max J N1) (by omega)
  grind
 subst this
 exact⟨v,I,gO.told ht hf hb e1,hR⟩
section
variable {P:Program} {α:Type}
theorem XV (s:Sat h S){z:V}(hu:P.underlying t=some (.slice e))(hz:zeroT P e=some z)(hk:bN P e=some 1)(hl:z.cells.length=1)(hx:x.cells=[x])(hy:y.cells=[y])(I:storable x=true)(J:storable y=true):
  ∃v h',buildSliceV P h t 2 [(0,x),(1,y)]=some (v,h')∧Sat h' (.arr 1 v [x,y]::S):=by
 refine⟨.sl h.next 0 2 (.exact 2),newRow h [x,y],?_,?_⟩
 ·obtain⟨z0,zU⟩:∃z0,z.cells=[z0]:=by
   match hq:z.cells with
   |[]=>rw[hq] at hl;cases hl
   |[z0]=>exact⟨z0,rfl⟩
   |_::_::_=>rw[hq] at hl;simp at hl
  simp only[buildSliceV,hu,hk,hz,zU]
  rw[show(Nat.beq [z0].length 1&&Nat.ble (2*1) 65536&&Nat.ble 1 1)=true by rfl,aj]
  have e1:repeatL [z0] 2=[z0,z0]:=by simp[repeatL]
  simp only[fillV,e1,hx,hy,bF,cG]
  show cond ([x,y].all storable) (some (V.sl h.next 0 2 (Cap.exact 2),newRow h [x,y])) none=_
  simp only[iT,iU,I,J]
  rfl
 ·refine(s.new _).gK fun m r hm=>⟨by simp[I,J],.inr ⟨h.next,2,.exact 2,2,[],rfl,?_,rfl,rfl,rfl,rfl,aU _⟩⟩
  have hm:m h.next=some (.cells 2 [x,y] false):=hm
  rw[hm];rfl
theorem MO {f:V→α→aL}{cs:List α}{c:α}(J:∀v x,aV (f v x))(s:Sat h (each f us cs::S))(I:cs[i]?=some c): ∃u,us[i]?=some u∧Sat h (f u c::each f us cs::S):=by
 obtain⟨a,b,q1,q2,q3⟩:=s.at (k:=0) rfl
 have hl:=pT q3
 have hi:=(List.getElem?_eq_some_iff.1 I).1
 have hu:us[i]?=some (us[i]'(by omega)):=bx _
 exact⟨_,hu,(s.dup (aV.each J _ _)).gK fun a b h=>CE h hu I⟩
theorem XW {S:Prop}: cL (pu S) (cQ .a_ []):=fun _ _ _=>.inl ⟨fun _ h=>(by cases h),.inl ⟨.inl rfl,rfl⟩⟩
end
theorem El {kd:Nat}: buildV Tryz.prog 48 [(0,.int .i64 (kd:Int))]=some (.agg (iw (kd:Int) 0 0 0 .a_ .a_)):=by rw[Fk];rfl
section
variable {told:cR} {M p:Nat} {v op:V} {kd lk:Nat} {cs:List (List Nat)} {pg:aX→Int→List Nat}
theorem dR.done (hw:NW N now)(hd:∀m,pgA af m=match lookL m now with|some b=>cW b aO|none=>pgA ε m){i:Int}(I:dR (pgG now ε i) kd link extra cs): dR (pgA af i) kd link extra cs:=by
 rw[hd]
 unfold pgG at I
 cases J:lookL i now with
 |none=>rw[J] at I;exact I
 |some b =>
  rw[J] at I
  obtain⟨k1,k2,_⟩:=oo (n:=aO) I.len
  exact I.tail k2 k1
theorem fI.done {M:List Nat}(hw:NW N now)(hd:∀m,pgA af m=match lookL m now with|some b=>cW b aO|none=>pgA ε m)(I:fI n R M (pgG now ε)): fI n R M (pgA af):=by
 obtain⟨ex,J⟩:=I.head
 obtain⟨kd,lk,mJ,h1⟩:=I.marks
 exact⟨⟨ex,J.done hw hd⟩,I.rl,⟨kd,lk,mJ,h1.done hw hd⟩,I.ml,I.n1,I.n2,I.own,I.hi⟩
theorem GV (hT:W told)(gT:fG ε)(I:bM ε+65536≤268435456)(J:ε.2.1.b=ε.2.2.log)(fC:ε.2.1.base+ε.2.1.b.length+1048584≤1099511627776)(hNm:N≤65536)(hw:NW N now)(s:Sat h (GA g a p q r data aC now ε::S)):
  Call ⟨Tryz.prog,told⟩ 26 [.ptr g 0,.agg (iw (kd:Int) 0 0 0 .a_ .a_)] h fun v h'=>∃(aO:Nat) (e:Int) (cl:Bool) (af:aX),DnR ε now kd 0 0 0 [] 0 aO e cl af∧v=.bf [.int .u64 (aO:Int),.int .i64 e] ∧
   Sat h' (gC g a now cl::SA a p q r (cond cl .b_ (.ptr g 0)) data aC af::S):=by
 have s:=bn.1 s
 have s:Sat h (gC g a now false::ew a p q r (.ptr g 0) data aC::dO r p q ε.1::b7 q p ε.2.1::aS p ε.2.2::S):=s
 have s:=(s.gD (φ:=True) aa).m6 (k:=4)
 refine(XG (pE:=0) (data:=[]) hT (s.ae [2,2,2,2,2,1,0]) XW rfl gT I (fun e he=>eB (hw.good e he).1) (by have:=hw.len;omega) (fun n hn=>by have:=hw.keys n hn;omega) (by decide) (by decide) (by decide) (fe _) J fC).mono ?_
 rintro v h ⟨aO,e,cl,af,hr,rfl,s⟩
 have s:Sat h (gC g a now cl::ew a p q r (cond cl .b_ (.ptr g 0)) data aC::dO r p q af.1::b7 q p af.2.1::aS p af.2.2::pu True::S):=s
 have s2:Sat h (SA a p q r (cond cl .b_ (.ptr g 0)) data aC af::gC g a now cl::pu True::S):=bn.2 (s.ae [1,1,1,1,0])
 exact⟨aO,e,cl,af,hr,rfl,(s2.ae [1]).del 2⟩
theorem Rq (hT:W told)(hB:B≤900)(I:EI N B ε)(hw:NW N now)(s:Sat h (GA g a p q r data aC now ε::S)):
  Call ⟨Tryz.prog,told⟩ 26 [.ptr g 0,.agg (iw (kd:Int) 0 0 0 .a_ .a_)] h fun v h'=>∃(aO:Nat) (e:Int) (cl:Bool) (af:aX),DnR ε now kd 0 0 0 [] 0 aO e cl af∧v=.bf [.int .u64 (aO:Int),.int .i64 e] ∧
   Sat h' (gC g a now cl::SA a p q r (cond cl .b_ (.ptr g 0)) data aC af::S):=by
 have J:=I.bM
 have fC:=I.el.size
 exact GV hT I.ok (by omega) I.el.log (by omega) I.many hw s
theorem Rr (hT:W told)(hB:B≤900)(I:EI N B ε)(hw:NW N now){L:Nat}(hL:now.length≤L)(hN:N≤1024)(h1:1≤kd)(h2:kd≤7)(hd:vD K M ε)(hf:K+520*L+28≤M)(s:Sat h (GA g a p q r data aC now ε::S)):
  Call ⟨Tryz.prog,told⟩ 26 [.ptr g 0,.agg (iw (kd:Int) 0 0 0 .a_ .a_)] h fun v h'=>∃(aO:Nat) (af:aX),v=.bf [.int .u64 (aO:Int),.int .i64 0]∧EI N (B+2) af∧(∀m,pgA af m=match lookL m now with|some b=>cW b aO|none=>pgA ε m)∧vD (K+520*L+28) M af ∧
   Sat h' (gC g a now true::SA a p q r .b_ data aC af::S)∧DnR ε now kd 0 0 0 [] 0 aO 0 true af:=by
 refine(Rq hT hB I hw s).mono ?_
 rintro v h ⟨aO,e,cl,af,hr,rfl,s⟩
 obtain⟨rfl,rfl,J⟩:=hr.fits I (by omega) hw hL hN h1 h2 (by decide) hd hf
 rcases I.done (by omega) hw (by omega) (by omega) hr with⟨je,_⟩|⟨_,_,rq,nN⟩
 ·cases je
 ·exact⟨aO,af,rfl,rq,nN,J,s,hr⟩
theorem Uk (J:W told)(hB:B≤900)(I:EI N B ε)(hw:NW N now)(hN:N≤1024)(h1:1≤kd)(h2:kd≤7)(hd:vD K M ε)(hf:K+520*N+28≤M)(s:Sat h (GA g a p q r data aC now ε::S)):
  Call ⟨Tryz.prog,told⟩ 26 [.ptr g 0,.agg (iw (kd:Int) 0 0 0 .a_ .a_)] h fun v h'=>∃(aO:Nat) (af:aX),v=.bf [.int .u64 (aO:Int),.int .i64 0]∧EI N (B+2) af∧(∀m,pgA af m=match lookL m now with|some b=>cW b aO|none=>pgA ε m)∧vD (K+520*N+28) M af ∧
   Sat h' (gC g a now true::SA a p q r .b_ data aC af::S)∧DnR ε now kd 0 0 0 [] 0 aO 0 true af:=Rr J hB I hw hw.len hN h1 h2 hd hf s
noncomputable def mdL : Code:=cN [1,1,1,0,1,0,0] ((Tryz.f73.body).getD .skip)
theorem Rs (hT:W told)(eX:26+4*cs.length+tot cs≤512)(QD:us.length=cs.length): ∀(m i:Nat) (v:V) (b:List Nat) (h:H) (E:List (Nat×V)) (Q:Ex→List (Nat×V)→H→Prop),i+m=cs.length→dR b kd link extra (cs.take i) →
  Sat h (aQ v b::each (fun v c=>.bY v c) us cs::.arr 1 cv us::S)→Has E [(7,v),(22,cv),(23,.int .i64 (cs.length:Int)),(24,.int .i64 (i:Int))] →
  (∀v' b' E' h',dR b' kd link extra cs→Has E' [(7,v')]→Sat h' (aQ v' b'::each (fun v c=>.bY v c) us cs::.arr 1 cv us::S)→Q (.exit 0) E' h')→WP ⟨Tryz.prog,told⟩ 38 (.loop mdL) E h Q:=by
 intro m
 induction m with
 |zero =>
  intro i v b h E Q hi hp s hE hq
  refine WP.loop (WP.has hE (zg rfl (zC rfl bh (by simp;omega) ?_)))
  exact zk 3 rfl (WP.exit (hq v b _ _ (by rw[show cs.take i=cs from gj (by omega)] at hp;exact hp) ⟨rfl,aa⟩ s))
 |succ m ih =>
  intro i v b h E Q hi hp s hE hq
  have I:cs[i]?=some (cs[i]'(by omega)):=bx _
  generalize (cs[i]'(by omega))=c at I
  obtain⟨u,hu,s⟩:=MO (fun _ _=>aV.bY _ _) (s.ae [1]) I
  dsimp only[aI,bringA] at s
  obtain⟨id,off,e1,e2⟩:=gJ (P:=Tryz.prog) s (k:=3) (i:=i) (c:=u) rfl hu gR gU
  have Q9:=ou I
  have Ml:=pF (cs:=cs) (i:=i+1)
  have hlen:(cs.take i).length=i:=by rw[fO];omega
  have JP:cs.take (i+1)=cs.take i++[c]:=by rw[wq,I];rfl
  refine WP.loop (WP.has hE (zg rfl (zB rfl bh (by simp;omega) ?_)))
  refine zk 5 rfl (WP.block (zK 3 rfl (zo rfl (cK (r:=.ptr id off) rfl rfl e1) (zl rfl (e2 _ bE) (zk 7 rfl ?_)))))
  have J:=MG (told:=told) hT (s.ae [2,0]) (bk _ _) (c8 _ _) hp (by rw[hlen];omega)
  rw[hlen] at J
  refine zc rfl (J) ?_
  rintro r h ⟨u',b',rfl,nU,s⟩
  rw[←JP] at nU
  refine zk 4 rfl (zv (zr rfl (zb rfl (by exact bC (aB (by omega) (by omega))) ?_)))
  refine zm rfl (zv ?_)
  exact ih (i+1) u' b' _ _ Q (by omega) nU (((s.ae [0,2,2]).del 4).del 3) ⟨rfl,rfl,rfl,rfl,aa⟩ hq
theorem MP (hT:W told)(VV:kd≤255)(Eh:lk<4294967296)(I:26+4*cs.length+tot cs≤512)(J:us.length=cs.length)(s:Sat h (each (fun v c=>.bY v c) us cs::.arr 1 cv us::S)):
  Call ⟨Tryz.prog,told⟩ 73 [.int .i64 (kd:Int),.int .i64 (lk:Int),cv] h fun r h'=>∃b',dR b' kd lk 0 cs∧Sat h' (aQ r b'::S):=by
 refine Call.of_wp (hT.free _ rfl) Tryz.func73 rfl rfl (zK 7 rfl (zc rfl (JB (kd:=kd) hT s VV) ?_))
 rintro r h ⟨u,b,rfl,hb,s⟩
 refine zk 10 rfl (zc rfl (MF (lk:=lk) (ex:=0) hT s (bk _ _) hb Eh (by decide)) ?_)
 rintro r h ⟨u2,b2,rfl,F8,s⟩
 refine zk 9 rfl (zo rfl (aN rfl rfl rfl (s.dZ (n:=cs.length) (j:=3) rfl (by rw[J,eF]) (by decide) gR)) ?_)
 refine zk 2 rfl (WP.block ?_)
 refine Rs hT I J cs.length 0 u2 b2 _ _ _ (by omega) F8 (s.ae [0,1,1]) ⟨rfl,rfl,rfl,rfl,aa⟩ (fun v' b' E' h' MQ hE s' => ?_)
 have s:=s'
 exact WP.has hE (zK 5 rfl (WP.ret ⟨aa,_,rfl,b',MQ,((s.del 3).del 2).del 1⟩))
theorem Oz (J:W told)(s:Sat h (X::S))(hX:cL X (cQ v b))(hl:b.length=512)(hg:bW b=false): Call ⟨Tryz.prog,told⟩ 140 [v] h fun r h'=>r=.bf [.a_,.int .i64 4]∧Sat h' (X::S):=by
 refine Call.of_wp (J.free _ rfl) Tryz.func140 rfl rfl (zK 8 rfl (zc rfl (sK J s hX (by omega)) ?_))
 rintro r h' ⟨s,(⟨I,rfl⟩|⟨_,rfl⟩)⟩
 ·rw[hg] at I;cases I
 refine zk 3 rfl ?_
 refine ax.cm s rfl rfl rfl (b6 jU) (fun p4 h s => ?_)
 refine zS rfl (s.fS (j:=0) rfl bS rfl rfl) (fun h s => ?_)
 refine zk 6 rfl (zB rfl aE (by decide) ?_)
 exact zk 8 rfl (WP.ret ⟨aa,_,rfl,rfl,s.drop⟩)
theorem Ru (hT:W told)(hR:tG told N B rv A pg)(J:EI N B ε)(hN:1≤N)(hl:(pg ε 0).length=512)(hg:bW (pg ε 0)=false)(s:Sat h (A ε::S)):
  Call ⟨Tryz.prog,told⟩ 91 [rv] h fun v h'=>∃af,v=.bf [.a_,.int .i64 0,.bool false,.int .i64 0]∧EI N B af∧Sm N ε af∧Sat h' (A af::S):=by
 obtain⟨ty,u,f,rfl,hm,jw⟩:=hR.iface
 refine Call.of_wp (hT.free _ rfl) Tryz.func91 rfl rfl (zK 10 rfl (ax.any rfl rfl rfl (OpR.invoke rfl rfl rfl hm rfl (jw J (by decide) (by omega) s)) ?_))
 rintro v h ⟨u,af,rfl,I,hs,s⟩
 refine zk 10 rfl (zC rfl aE (rfl) (zk 6 rfl (zc rfl (Oz hT s (bk _ _) hl hg) ?_)))
 rintro v h ⟨rfl,s⟩
 refine zk 8 rfl (WP.drawn [ah,ah,ah,ah,ah,ah,ah,ah,some (0,2),some (0,2),some (0,2),ah,ah,ah,ah,ah,ah,ah,ah,ah,ah,ah] rfl (by kernel_rfl) (by kernel_rfl) ?_)
 refine zM rfl (ay.tE rfl rfl rfl rfl (aA rfl rfl aE) (by decide) ?_)
 refine zM rfl (ay.no (e:=false) rfl rfl rfl rfl (ay.no (e:=false) rfl rfl rfl rfl (ay.no (e:=false) rfl rfl rfl rfl (zO rfl (iH rfl rfl) (zM rfl (ay.no (e:=false) rfl rfl rfl rfl (ay.no (e:=false) rfl rfl rfl rfl (ay.no (e:=false) rfl rfl rfl rfl (ay.no (e:=true) rfl rfl rfl rfl (ay.no (e:=true) rfl rfl rfl rfl (ay.no (e:=false) rfl rfl rfl rfl (zO rfl (iH rfl rfl) (zM rfl (ay.no (e:=false) rfl rfl rfl rfl (ay.no (e:=false) rfl rfl rfl rfl (ay.no (e:=false) rfl rfl rfl rfl (ay.no (e:=false) rfl rfl rfl rfl (ay.no (e:=false) rfl rfl rfl rfl (zO rfl (iH rfl rfl) ?_)))))))))))))))))))
 refine ay.nil ⟨⟨aa,aa,aa,aa,aa,aa,aa,aa,fun _ _=>.inl rfl,fun _ _=>.inl rfl,fun _ _=>.inl rfl,aa,aa,aa,aa,aa,aa,aa,aa,aa,aa,aa,aa⟩,?_⟩
 exact zK 8 rfl (WP.ret ⟨aa,_,rfl,af,rfl,I,hs,s.drop⟩)
theorem Hz (hT:W told)(hR:tG told N B rv A pg)(J:EI N B ε)(hN:1≤N)(hl:(pg ε 0).length=512)(hg:bW (pg ε 0)=false)(s:Sat h (A ε::S)):
  Call ⟨Tryz.prog,told⟩ 37 [rv] h fun v h'=>∃af,v=.bf [.bool false,.int .i64 0]∧EI N B af∧Sm N ε af∧Sat h' (A af::S):=by
 refine Call.of_wp (hT.free _ rfl) Tryz.func37 rfl rfl (zK 8 rfl (zc rfl (Ru hT hR J hN hl hg s) ?_))
 rintro v h ⟨af,rfl,I,hs,s⟩
 exact zk 17 rfl (WP.ret ⟨aa,_,rfl,af,rfl,I,hs,s⟩)
end
def sX : List Nat:=((List.replicate 375 0).set 0 1).set 0 3
theorem JQ : bt sX j=decide (j<2):=by
 unfold bt sX
 by_cases h:j/8=0
 ·have e:(((List.replicate 375 0).set 0 1).set 0 3).getD (j/8) 0=3:=by rw[h];decide +kernel
  have k:∀i,i<8→(3:Nat).testBit i=decide (i<2):=by decide
  rw[e,k _ (by omega)]
  by_cases I:j<2
  ·rw[gn I,gn (by omega)]
  ·rw[gF I,gF (by omega)]
 ·have e:(((List.replicate 375 0).set 0 1).set 0 3).getD (j/8) 0=0:=by
   rw[lW,rI (by omega),rI (by omega),List.getElem?_replicate]
   split<;>rfl
  rw[e,Nat.zero_testBit,gF (by omega)]
def Rv (N B kd:Nat)(ε af:aX): Prop:=∃(I:aX) (now:List (Int×List Nat)) (aO:Nat),EI N B I∧Sm N ε I∧NW N now∧(∀i:Int,2≤i→lookL i now=none)∧DnR I now kd 0 0 0 [] 0 aO 0 true af
section
variable {told:cR} {M p:Nat}
theorem Rw (hB:B≤800)(eY:EI N B ε)(hN:4≤N)(xu:N≤1000)(hz:(pgA ε 0).length=512)(hg:bW (pgA ε 0)=false)(hd:vD K M ε)(hf:K+520*N+28≤M)(s:Sat h (SA a p q r .b_ data aC ε::S)):
  ∃v h2,(∃N0,∀n,N0≤n→toldDefer CB n 31 [.ptr a 0] h=some (v,h2))∧(v=.int .i64 0∧∃af,EI N (B+2) af∧fI N (List.replicate 64 0) sX (pgA af)∧vD (K+520*N+28) M af∧Sat h2 (SA a p q r .b_ data aC af::S)∧Rv N B 1 ε af):=by
 have I:=W.base
 refine toldDefer_do (C:=CB) JM rfl rfl (of_decide_eq_true (by kernel_rfl)) ?_
 refine WPd.seq (WPd.of_wp rfl (zr rfl (za rfl (zv (WPd.seq (WPd.of_wp rfl (zr rfl (zm rfl (zo rfl (qS rfl (mki_of sQ rfl)) (zc rfl (Hz I (JK I (by omega)) eY (by omega) hz hg s) ?_))))))))))
 rintro v h ⟨pG,rfl,oQ,jD,s⟩
 have hd:=hd.sm jD
 have s:Sat h (ew a p q r .b_ data aC::dO r p q pG.1::b7 q p pG.2.1::aS p pG.2.2::S):=bn.1 s
 refine zk 5 rfl (zv (WPd.seq (WPd.of_wp rfl (WP.block (zg rfl (zm rfl (zh rfl (aA rfl rfl aE) (rfl) (za rfl (zv (zj rfl (zg rfl (zk 2 rfl (zv (zj rfl (WP.skip (WPd.seq (WPd.of_wp rfl (zr rfl (zm rfl (zc rfl (T7 I s) ?_))))))))))))))))))))
 rintro v h' ⟨rfl,rfl⟩
 refine zc rfl (yg I (s.ae [3])) ?_
 rintro v h' ⟨rfl,rfl⟩
 rw[oQ.ec.dk.aq]
 refine za rfl (zv (WPd.seq (WPd.of_wp rfl (zr rfl (zm rfl (zc rfl (xo I (n:=N) (by omega) (by omega)) ?_))))))
 rintro v h' ⟨rfl,rfl⟩
 refine za rfl (zv (WPd.seq (WPd.of_wp rfl (zr rfl (zm rfl (zc rfl (GM I s) ?_))))))
 rintro v h ⟨g,rfl,s⟩
 refine zk 5 rfl (zv (WPd.seq (WPd.seq (WPd.of_wp rfl (zr rfl (zm rfl (zh rfl (aA rfl rfl aE) (rfl) (zv (WPd.of_wp rfl (zj rfl (WP.skip (WPd.seq (WPd.defer rfl rfl rfl rfl rfl rfl rfl rfl rfl rfl rfl rfl (WPd.seq (WPd.seq (WPd.of_wp rfl (zr rfl (zk 2 rfl (zb rfl (by exact bC (aB (by omega) (by omega))) ?_)))))))))))))))))))
 refine zC rfl bh (by simp;omega) ?_
 have s:Sat h (GA g a p q r data aC [] pG::S):=bn.2 s
 refine zv (WPd.of_wp rfl (zj rfl (WP.skip (WPd.seq (WPd.seq (WPd.of_wp rfl (WP.drawn [some (0,5),some (0,4),ah,ah,ah,ah,ah,ah] rfl (by kernel_rfl) (by kernel_rfl) ?_)))))))
 refine zM rfl (zM rfl (ay.any rfl rfl rfl rfl (OpR.call rfl rfl rfl rfl (JD I s)) ?_))
 intro mv h s
 refine ay.any rfl rfl rfl rfl (OpR.gQ rfl s rfl rfl rfl rfl (by decide)) ?_
 intro zbv h s
 have s:=s.ga
 have h64:(List.replicate 64 0).length=64:=fN
 have hm:=(s.aD (k:=1) rfl (c8 _ _)).cells
 have hzc:=(s.aD (k:=0) rfl (c8 _ _)).cells
 obtain⟨cv,h1,e1,s1⟩:=XV (P:=Tryz.prog) (x:=mv) (y:=zbv) s gR oT gU rfl hm.1 hzc.1 hm.2 hzc.2
 refine ay.any rfl rfl rfl rfl (OpR.of (R:=fun v h'=>v=cv∧h'=h1) (ke rfl e1) ⟨rfl,rfl⟩) ?_
 rintro cv h ⟨rfl,rfl⟩
 have s:=(s1.ae [2,1]).two (C:=each (fun v c=>.bY v c) [mv,zbv] [ic,List.replicate 64 0]) (aV.bY _ _) (aV.bY _ _) fun a b q1 q2=>⟨q1,q2,aa⟩
 generalize hR:List.replicate 64 0=R at s h64
 refine ay.any rfl rfl rfl rfl (OpR.call rfl rfl rfl rfl (MP (kd:=201) (lk:=N) I (by decide) (by omega) (by simp only[tot,ic,bF,cG,h64];decide) rfl s)) ?_
 rintro u h ⟨b0,sD,s⟩
 refine ay.any rfl rfl rfl rfl (OpR.call rfl rfl rfl rfl (Ox (i:=0) I (by omega) oQ (NW.nil N) (by omega) (s.ae [1,0]) (bk _ _) sD)) ?_
 rintro v h ⟨fM,rfl,jW,jg,kG,s⟩
 have hd:=hd.sm jg
 refine zA rfl ?_
 refine ay.nil ⟨⟨fun _ _=>.inr ⟨rfl,⟨_,bK rfl⟩,bH _ rfl⟩,fun _ _=>.inr ⟨rfl,⟨_,bK rfl⟩,bH _ rfl⟩,aa,aa,aa,aa,aa,aa,aa⟩,?_⟩
 refine WPd.seq (WPd.of_wp rfl (zr rfl (zm rfl (zh rfl (aA rfl rfl aE) (rfl) (zv (WPd.of_wp rfl (zj rfl (WP.skip (WPd.seq (WPd.seq (WPd.of_wp rfl (zr rfl (za rfl (zv (WPd.of_wp rfl (WP.block (WP.loop (zw (zg rfl (zk 2 rfl (zt rfl (aA rfl rfl bh) (by decide) ?_)))))))))))))))))))))
 refine zv (zi rfl (WP.skip (zw (WP.block (zg rfl (ax.any rfl rfl rfl (OpR.gQ rfl s rfl rfl rfl rfl (by decide)) ?_))))))
 intro mk h s
 have J:(List.replicate 375 0).length=375:=fN
 have zU:(List.replicate 375 0)[0]?=some 0:=by decide +kernel
 have xj:sX.length=375:=by unfold sX;rw[dJ,dJ,J]
 have Em:sX=((List.replicate 375 0).set 0 1).set 0 3:=rfl
 have AR:∀j,bt sX j=decide (j<2):=fun j=>JQ
 generalize sX=M0 at xj Em AR ⊢
 generalize List.replicate 375 0=Z at s J zU Em
 obtain⟨id,off,e2,e3⟩:=eU (s.buf (k:=0) rfl).view zU
 obtain⟨JL,CO,e4,h4,e5,s2⟩:=nE s (i:=0) (b:=1) (by omega) (by decide)
 have ee:V.ptr id off=V.ptr JL CO:=by rw[e2] at e4;exact cA e4
 rw[←ee] at e5
 refine zk 8 rfl (WP.block (WP.loop (zg rfl (zB rfl bh (by decide) ?_))))
 refine zk 5 rfl (WP.block (zK 8 rfl (zo rfl (aA (r:=.int .i64 0) rfl rfl (by kernel_rfl)) ?_)))
 refine zm rfl (zb rfl (by exact iM (aB (by omega) (by omega))) ?_)
 refine zB rfl eu (by decide) ?_
 refine zk 2 rfl (WP.drawn [ah,ah,ah,ah,ah,ah,ah,ah,ah,ah,ah,ah] rfl (by kernel_rfl) (by kernel_rfl) ?_)
 refine zM rfl (zM rfl (zO rfl (aA (r:=.int .i64 0) rfl rfl (by kernel_rfl)) ?_))
 refine zO rfl (aA (r:=.int .i64 0) rfl rfl (by kernel_rfl)) ?_
 refine zO rfl (cK (r:=.ptr id off) rfl rfl e2) (zL rfl e3 (zM rfl (zO rfl (aA (r:=.int .i64 0) rfl rfl (by kernel_rfl)) ?_)))
 refine zO rfl (aA (r:=.int .u8 1) rfl rfl (by kernel_rfl)) ?_
 refine zO rfl (aA (r:=.int .u8 1) rfl rfl (by kernel_rfl)) ?_
 refine zO rfl (cK (r:=.ptr id off) rfl rfl e2) (ay.ij rfl rfl rfl (OpR.eA rfl rfl rfl (⟨h4,e5,s2⟩)) ?_)
 rintro w h ⟨rfl,s⟩
 refine ay.nil ⟨⟨aa,aa,aa,aa,aa,aa,aa,aa,aa,aa,aa,aa,aa⟩,?_⟩
 have Pj:(Z.set 0 1)[0]?=some 1:=kM (by omega)
 have qD:(Z.set 0 1).length=375:=by rw[dJ,J]
 obtain⟨Rx,JR,e6,e7⟩:=eU (s.buf (k:=0) rfl).view Pj
 obtain⟨id6,acN,e8,h7,e9,s3⟩:=nE s (i:=0) (b:=3) (by omega) (by decide)
 have ee:V.ptr Rx JR=V.ptr id6 acN:=by rw[e6] at e8;exact cA e8
 rw[←ee] at e9
 refine zr rfl (zb rfl (by exact bC (aB (by omega) (by omega))) ?_)
 refine zm rfl (zv (WP.loop (zg rfl (zt rfl (aA rfl rfl bh) (by decide) ?_))))
 refine zk 5 rfl (WP.block (zK 8 rfl (zo rfl (aA (r:=.int .i64 0) rfl rfl (by kernel_rfl)) ?_)))
 refine zm rfl (zb rfl (by exact iM (aB (by omega) (by omega))) ?_)
 refine zB rfl eu (by decide) ?_
 refine zk 2 rfl (WP.drawn [ah,ah,ah,ah,ah,ah,ah,ah,ah,ah,ah,ah] rfl (by kernel_rfl) (by kernel_rfl) ?_)
 refine zM rfl (zM rfl (zO rfl (aA (r:=.int .i64 1) rfl rfl (by kernel_rfl)) ?_))
 refine zO rfl (aA (r:=.int .i64 0) rfl rfl (by kernel_rfl)) ?_
 refine zO rfl (cK (r:=.ptr Rx JR) rfl rfl e6) (zL rfl e7 (zM rfl (zO rfl (aA (r:=.int .i64 1) rfl rfl (by kernel_rfl)) ?_)))
 refine zO rfl (aA (r:=.int .u8 2) rfl rfl (by kernel_rfl)) ?_
 refine zO rfl (aA (r:=.int .u8 3) rfl rfl (by kernel_rfl)) ?_
 refine zO rfl (cK (r:=.ptr Rx JR) rfl rfl e6) (ay.ij rfl rfl rfl (OpR.eA rfl rfl rfl (⟨h7,e9,s3⟩)) ?_)
 rintro w h ⟨rfl,s⟩
 refine ay.nil ⟨⟨aa,aa,aa,aa,aa,aa,aa,aa,aa,aa,aa,aa,aa⟩,?_⟩
 rw[←Em] at s
 refine zr rfl (zb rfl (by exact bC (aB (by omega) (by omega))) ?_)
 refine zm rfl (zv (WP.loop (zg rfl (zh rfl (aA rfl rfl bh) (by decide) ?_))))
 refine zk 3 rfl (WP.exit (zK 5 rfl ?_))
 have s:=s.ga
 have VZ:=(s.aD (k:=0) rfl (c8 _ _)).cells
 obtain⟨cv2,h8,Zx,s4⟩:=jB (P:=Tryz.prog) (k:=1) (x:=mk) s gR oT gU rfl (by decide) (by decide) (by rw[VZ.1];rfl) (by rw[VZ.1];simp only[iT,iU,VZ.2];rfl)
 rw[VZ.1] at s4
 refine ax.any rfl rfl rfl (OpR.of (R:=fun v h'=>v=cv2∧h'=h8) (ke rfl Zx) ⟨rfl,rfl⟩) ?_
 rintro cv2 h ⟨rfl,rfl⟩
 have s:=(s4.ae [1]).gK (B:=each (fun v c=>.bY v c) [mk] [M0]) fun a b q=>⟨q,aa⟩
 dsimp only[aI,bringA] at s
 refine zc rfl (MP (kd:=202) (lk:=0) I (by decide) (by decide) (by simp only[tot,bF,cG,xj];decide) rfl s) ?_
 rintro u h ⟨b1,BQ,s⟩
 refine zc rfl (Ox (i:=1) I (by omega) jW kG (by omega) (s.ae [1,0]) (bk _ _) BQ) ?_
 rintro v h ⟨tW,rfl,vC,lS,vb,s⟩
 dsimp only[aI,bringA] at s
 have hd:=hd.sm lS
 refine za rfl (zv (zg rfl (zm rfl (zh rfl (aA rfl rfl aE) (rfl) (zv (zj rfl (WP.skip (zr rfl (zm rfl (zb rfl (by exact bC (aB (by omega) (by omega))) ?_))))))))))
 refine zk 2 rfl (WP.loop (zK 5 rfl (zC rfl bh (by decide) ?_)))
 refine zk 2 rfl (WP.exit (WPd.seq (WPd.of_wp rfl (zK 2 rfl (zo rfl (cT rfl (El (kd:=1))) (zc rfl (Uk (kd:=1) I (by omega) vC vb (by omega) (by decide) (by decide) hd hf s) ?_))))))
 rintro v h ⟨aO,ε4,rfl,adN,nN,hd4,s,Ry⟩
 have JA:fI N R M0 (pgG (cD ((1:Nat):Int) b1 (cD ((0:Nat):Int) b0 [])) tW):=by
  refine⟨⟨0,?_⟩,h64,⟨202,0,0,?_⟩,xj,by omega,by omega,fun j hj=>by rw[AR,gn hj],fun j hj=>by rw[AR,gF (by omega)]⟩
  ·rw[jt,ak (by decide),jt,aP (by decide)];exact sD
  ·rw[jt,aP (by decide)];exact BQ
 refine zk 4 rfl (zv (WPd.seq (WPd.of_wp rfl (zr rfl (zk 2 rfl (zv (WPd.of_wp rfl (WP.ret ?_))))))))
 have s:=s.ae [1]
 have s:=bn.1 s
 have s:=s.ae [4]
 obtain⟨v2,h2,sI,rfl,s⟩:=Oj I s
 have s:=s.ae [1,1,1,1]
 have s:Sat h2 (SA a p q r .b_ data aC ε4::_):=bn.2 s
 have Mz:mV 33=none:=I.free _ rfl
 exact⟨aa,h2,_,Lh (C:=CB) Mz Jh rfl rfl sI,pO rfl,rfl,ε4,adN,JA.done vb nN,hd4,((s.del 3).del 2).del 1,tW,_,aO,vC,(jD.trans jg).trans lS,vb,fun i hi=>by rw[gL,ak (by omega),gL,ak (by omega)];rfl,Ry⟩
end
end Go.Proofs.YtefepnnfphdkpaaGreat.Am
namespace Go.Proofs.YtefepnnfphdkpaaGreat.Am
open Go Go.RowKit
variable {X Y:aL} {C:fc} {code mB:Code} {c':Ctx} {d:qR} {ε af:aX} {A:aX→aL} {lv dd:aX→Prop} {env:Env} {Q:Ex→List (Nat×V)→H→Prop} {fn:Func} {cl:Go.Call} {o:Go.Obj} {h σ:H} {P P' P0:Int→List Nat} {now:List (Int×List Nat)} {dy:List (List Nat)} {E Ee:List (Nat×V)} {S:List aL} {U:List Bool} {zs:List Int} {dX L M b R l c data ps M':List Nat} {cs args us Rt ds vs:List V} {n f i N tx K B aO a id k g q r aC link extra j left p4 p5 p6 p2 p3 z nx acc:Nat} {G:Prop} {e t t':TypeId} {y x rv cv pv bv u uv sv wv tv hv lnv kv:V} {w':World}
def rangeParts : Code→Option (Code×Code×Nat×Operand×Array Tmp×Code×Code×Code)
 |.seq a (.seq (.seq b (.block id (.rangeFunc x ps mB bd))) t)=>some (a,b,id,x,ps,mB,bd,t)
 |_=>none
noncomputable def toldRange (C:fc)(n:Nat)(f:FuncId)(args:List V)(h:H): Option (V×H):=match C.P.funcs[f]? with
 |none=>none
 |some fn=>match fn.body with
  |none=>none
  |some code=>cond (Nat.blt fn.ntmps args.length) none (match rangeParts code with
   |none=>none
   |some (a,b,_,x,ps,mB,bd,t)=>match ev C n a ⟨bindArgs args 0 .lf,fn.ntmps,h⟩ with
    |some (.normal,SN)=>match ev C n b SN with
     |some (.normal,I)=>match evO I.env x with
      |some (.fn (.func g) [] cap)=>match callF C (ev C n) g (.yO I.h.next::cap) (I.h.new (.loop false I.au I.env ps.toList mB bd)) with
       |some (_,J)=>match T.get J.tr I.h.next with
        |some (.loop false _ _ _ _ _)=>match ev C n t ⟨I.env,I.au,J.put I.h.next none⟩ with
         |some (.normal,s)|some (.ret,s)=>match mapO (resV C.P s) fn.results.toList with
          |some [v]=>some (v,s.h)
          |some vs=>some (.bf vs,s.h)
          |none=>none
         |_=>none
        |some .tj=>match mapO (resV C.P ⟨I.env,I.au,J.put I.h.next none⟩) fn.results.toList with
         |some [v]=>some (v,J.put I.h.next none)
         |some vs=>some (.bf vs,J.put I.h.next none)
         |none=>none
        |_=>none
       |none=>none
      |_=>none
     |_=>none
    |_=>none)
section
variable {c:Ctx} {w:World}
theorem Rel.other {b:Nat}(h:Rel c σ w)(hb:∀id,id<c.N→(c.ρ id).1≠b): Rel c σ (w.putObj b o):=by
 have get:∀i,(w.putObj b o).heap[i]?=if b=i∧b<w.heap.size then some o else w.heap[i]?:=fun i=>by
  simp only[World.putObj,A2]
  by_cases J:b=i
  ·subst J
   by_cases I:b<w.heap.size
   ·simp[I]
   ·simp[I,Array.getElem?_eq_none (wA I)]
  ·simp[J]
 have same:∀id,id<c.N→(w.putObj b o).heap[(c.ρ id).1]?=w.heap[(c.ρ id).1]?:=fun id hi=>by
  rw[get]
  simp[qi (hb id hi)]
 have rows:∀id,id<c.N→rowSize (w.putObj b o) (c.ρ id).1=rowSize w (c.ρ id).1:=fun id hi=>by unfold rowSize;rw[same id hi]
 exact⟨h.next,h.live,fun id hi=>by simpa[World.putObj] using h.lP id hi,fun id hi=>by rw[rows id hi];exact h.zz id hi,h.inj,
  fun id o ho=>(h.obj id o ho).later (Ext.refl c) (h.live id o ho) (same id (h.live id o ho)),h.one,h.fx⟩
theorem Rel.endLoop {o:Obj}{r aep:Loop}(h:Rel c σ w)(hg:σ.tr.get id=some o)(ho:∀n cs,o≠.cells n cs true)(hb:w.heap[(c.ρ id).1]?=some (.loop aep)):
  Rel c (σ.put id none) (w.putObj (c.ρ id).1 (.loop r))∧cF c w c (w.putObj (c.ρ id).1 (.loop r)):=by
 have cI:(c.ρ id).1<w.heap.size:=(Array.getElem?_eq_some_iff.1 hb).1
 have get:∀i,(w.putObj (c.ρ id).1 (.loop r)).heap[i]?=if (c.ρ id).1=i then some (.loop r) else w.heap[i]?:=fun i=>by
  simp only[World.putObj,A2,cI,cY]
 have rows:∀i,rowSize (w.putObj (c.ρ id).1 (.loop r)) i=rowSize w i:=fun i=>by
  unfold rowSize
  rw[get]
  by_cases hi:(c.ρ id).1=i
  ·subst hi;simp[hb]
  ·simp[hi]
 have I:=h.kill id
 have hX:=h.E7 hg ho
 refine⟨⟨I.next,I.live,fun j hj=>by simpa[World.putObj] using I.lP j hj,fun j hj=>by rw[rows];exact I.zz j hj,I.inj,fun j o hj => ?_,I.one,I.fx⟩,
  ⟨Ext.refl c,by simp[World.putObj],fun b _=>rows b,fun b _ hn => ?_,fun j h1 h2=>by omega,rfl,rfl⟩⟩
 ·refine(I.obj j o hj).later (Ext.refl c) (I.live j o hj) ?_
  have J:=hj
  rw[dK] at J
  by_cases yU:j=id
  ·simp[yU] at J
  ·simp[yU] at J
   have mH:(c.ρ id).1≠(c.ρ j).1:=fun he=>yU (h.Cn J hg he.symm hX)
   rw[get]
   simp[mH]
 ·rw[get]
  have:(c.ρ id).1≠b:=fun he=>by have:=hn id (h.live id _ hg) he;rw[hX] at this;cases this
  simp[this]
theorem cF.MR {b:Nat}(h:cF c w c' w')(I:b<w.heap.size)(J:∀id,id<c.N→(c.ρ id).1≠b): (∀id,id<c'.N→(c'.ρ id).1≠b)∧w'.heap[b]?=w.heap[b]?:=by
 refine⟨fun id hi he => ?_,h.kH b I fun id hi he=>absurd he (J id hi)⟩
 by_cases h1:id<c.N
 ·rw[h.ext.ρ id h1] at he;exact J id h1 he
 ·rcases h.fresh id (by omega) hi with h2|⟨j,hj,h2,_⟩
  ·omega
  ·exact J j hj (by rw[h2,he])
theorem cF.aac {b:Nat}(h:cF c w c' w')(J:w.heap.size≤b): cF c w c' (w'.putObj b o):=by
 have get:∀i,i<w.heap.size→(w'.putObj b o).heap[i]?=w'.heap[i]?:=fun i hi=>World.putObj_heap_other (by omega)
 exact⟨h.ext,by simpa[World.putObj] using h.size,fun i hi=>by rw[←h.rows i hi];unfold rowSize;rw[get i hi],fun i hi I=>by rw[get i hi];exact h.kH i hi I,h.fresh,h.sys⟩
end
section
variable {c:Ctx} {w:World}
theorem dH.defers {a:Act}(h:dH c env n a)(ds:List Deferred): dH c env n { a with defers:=ds }:=⟨h.size,h.val,h.sC⟩
theorem JS (hm:C.P.follows .mixedOrders=true)(hT:fq C){f:FuncId}{v:V}{dz:H}(hr:toldRange C n f args σ=some (v,dz))(h:Rel c σ w)(hw:∀x∈args,wf c x):
  eZ C.P f args c w v dz:=by
 have hS:=(z8 (C:=C) hm hT n).1
 unfold toldRange at hr
 split at hr
 ·cases hr
 ·rename_i fn hf
  split at hr
  ·cases hr
  ·rename_i code hb
   cases hq:Nat.blt fn.ntmps args.length with
   |true=>rw[hq] at hr;cases hr
   |false =>
    rw[hq,aY] at hr
    have hle:args.length≤fn.ntmps:=by
     rcases qh fn.ntmps args.length with h'|h'
     ·rw[iF.2 h'] at hq;cases hq
     ·exact h'
    have nX:=jN (c:=c) hle hw
    split at hr
    ·cases hr
    ·rename_i pa pb pid px pps mB pbd pt xw
     have abD:code=.seq pa (.seq (.seq pb (.block pid (.rangeFunc px pps mB pbd))) pt):=by
      unfold rangeParts at xw
      split at xw
      ·simp only[az,bJ] at xw
       obtain⟨rfl,rfl,rfl,rfl,rfl,rfl,rfl,rfl⟩:=xw
       rfl
      ·cases xw
     split at hr
     ·rename_i SN Vg
      split at hr
      ·rename_i J Po
       split at hr
       ·rename_i g cap hx
        split at hr
        ·rename_i y Du NC
         ·-- whatever the loop was left by
          have tail:∀o s,T.get Du.tr J.h.next=some o→(∀n cs,o≠.cells n cs true) →
            (∀(CR:Ctx) (OA:World),xG CR OA J.h.next o→∃rr:Loop,OA.heap[(CR.ρ J.h.next).1]?=some (.loop rr)∧rr.state≠.busy∧((rr.pending=none∧∃ex,ev C n pt ⟨J.env,J.au,Du.put J.h.next none⟩=some (ex,s)∧(ex=.normal∨ex=.ret))∨(rr.pending=some .ret∧s=⟨J.env,J.au,Du.put J.h.next none⟩))) →
            (match mapO (resV C.P s) fn.results.toList with
             |some [v]=>some (v,s.h)
             |some vs=>some (.bf vs,s.h)
             |none=>none)=some (v,dz)→eZ C.P f args c w v dz:=by
           intro o s GW adO I6 wQ
           unfold eZ
           refine(callsIn_wide (n:=0)).1 (callsIn_of_wp_marks (F:=Fence.wide) hf hb aa ?_ rfl)
           rw[abD]
           refine wpIn_seq (wpIn_mono (hS pa _ .normal SN Vg none c _ w h nX) ?_)
           rintro e BN sE ⟨rfl,Pp,c₁,Ih,uI,nR⟩
           refine wpIn_seq (wpIn_seq (wpIn_mono (hS pb _ .normal J Po none c₁ BN sE Ih uI) ?_))
           rintro e Hq I ⟨rfl,YS,c₂,Ii,Dc,F9⟩
           have aad:Hq.defers=[]:=by rw[YS,Pp]
           obtain⟨Rz,mJ⟩:=wK Dc hx
           have Fa:∀z∈cap,wf c₂ z:=by
            have:gM c₂ []∧gM c₂ cap:=by simpa[wf] using mJ
            exact iV.1 this.2
           have hN:J.h.next=c₂.N:=Ii.next
           -- the two blocks of the loop
           obtain⟨rA,fS⟩:=Ii.below (w':=I.alloc (.deferred (some []))) ((Below.refl _ I).alloc (aU _) _)
           have hDA:(I.alloc (.deferred (some []))).heap[I.heap.size]?=some (.deferred (some [])):=World.alloc_heap_new I _
           have acO:∀id,id<c₂.N→(c₂.ρ id).1≠I.heap.size:=fun id hi he=>absurd (Ii.lP id hi) (by omega)
           refine wpIn_block (wpIn_rangeFunc (fun fn' _ => ?_))
           obtain⟨O,hO⟩:∃O:Go.Obj,O=.loop { state:=.ready,pending:=none,fn:=fn',tmps:=Hq.tmps,params:=pps,assign:=mB,body:=pbd,defers:=I.heap.size }:=⟨_,rfl⟩
           have acP:(I.alloc (.deferred (some []))).heap.size=I.heap.size+1:=World.size_alloc _ _
           have YG:objSize O=0:=by rw[hO];rfl
           have eG:=Co rA 0 (objSize O)
           obtain⟨rB,stB⟩:=rA.new (.loop false J.au J.env pps.toList mB pbd) O 0 rfl (by
            refine⟨fn',Hq.tmps,I.heap.size,?_,Dc.size,fun t => ?_,fun t=>(cx eG _ (Dc.sC t)).2⟩
            ·rw[bP,hO]
             exact World.alloc_heap_new _ _
            ·rw[Dc.val t,(cx eG _ (Dc.sC t)).1])
           obtain⟨cB,hcB⟩:∃cB,cB=c₂.grow (I.alloc (.deferred (some []))).heap.size 0 (objSize O):=⟨_,rfl⟩
           rw[←hcB] at rB stB eG
           have aae:cB.ρ c₂.N=(I.heap.size+1,0):=by rw[hcB,bP,acP]
           have hNB:cB.N=c₂.N+1:=by rw[hcB];rfl
           obtain⟨kc,ken⟩:=callF_ok hS.wide hT NC rB (by
            intro z hz
            rcases List.mem_cons.1 hz with rfl|hz
            ·simp only[wf];omega
            ·exact(cx eG _ (Fa z hz)).2)
           refine⟨I.heap.size+1,[{ target:=.collected I.heap.size,args := #[] }],(I.alloc (.deferred (some []))).alloc O,{ target:=.fn (.func g) (cap.map (conc c₂)).toArray,args := #[.func (.yield (I.heap.size+1)) #[] #[]] },(I.alloc (.deferred (some []))).alloc O,g,
            #[.func (.yield (I.heap.size+1)) #[] #[]]++(cap.map (conc c₂)).toArray,(I.alloc (.deferred (some []))).alloc O,?_,?_,fun _ _=>trivial,?_,?_,?_⟩
           ·rw[hO];exact run_enterLoop_outer _ _ _ _ _
           ·have nK:Hq.eval px=.func (.func g) #[] (cap.map (conc c₂)).toArray:=by rw[Rz];simp[conc,gu]
            simp only[resolve,rangeCall,nK]
            simp[go_sem,Act.eval]
           ·simp[invoke,go_sem,ken]
           ·intro hd;exact absurd hd (by decide)
           ·have Br:((V.yO J.h.next::cap).map (conc cB)).toArray = #[.func (.yield (I.heap.size+1)) #[] #[]]++(cap.map (conc c₂)).toArray:=by
             apply Array.ext'
             simp only[iE,conc,hN,aae,(l9 eG Fa).1]
             simp
            unfold eZ at kc
            rw[Br] at kc
            refine Ig (r:=none) (Calls.mono kc ?_)
            rintro e OA ⟨CR,rfl,_,XX,aaf⟩
            rw[hN] at GW
            have aeq:c₂.N<CR.N:=XX.live _ _ GW
            have adP:CR.ρ c₂.N=(I.heap.size+1,0):=by rw[aaf.ext.ρ c₂.N (by omega),aae]
            rw[hN] at I6
            obtain⟨rr,RA,hnb,hpd⟩:=I6 CR OA (XX.obj c₂.N _ GW)
            obtain⟨abE,aag⟩:=XX.endLoop (r:={ rr with state:=.exhausted }) GW adO RA
            rw[adP] at RA abE aag
            refine⟨rr.pending,_,run_endLoop RA hnb,?_⟩
            obtain⟨RB,aah⟩:∃RB,RB=OA.putObj (I.heap.size+1) (.loop { rr with state:=.exhausted }):=⟨_,rfl⟩
            rw[←aah] at abE aag
            -- all of it so far, pas one step
            have V0:cF c₂ I CR RB:=((fS.trans stB).trans aaf).trans aag
            -- the block for the rounds' deferred calls
            have nB:∀id,id<cB.N→(cB.ρ id).1≠I.heap.size:=fun id hi=>by
             by_cases h1:id<c₂.N
             ·rw[eG.ρ id h1];exact acO id h1
             ·have:id=c₂.N:=by omega
              rw[this,aae];simp
            have hDB:((I.alloc (.deferred (some []))).alloc O).heap[I.heap.size]?=some (.deferred (some [])):=by
             rw[iB,ak (by omega)];exact hDA
            have acQ:I.heap.size<((I.alloc (.deferred (some []))).alloc O).heap.size:=(Array.getElem?_eq_some_iff.1 hDB).1
            obtain⟨aer,aes⟩:=aaf.MR acQ nB
            have adQ:OA.heap[I.heap.size]?=some (.deferred (some [])):=aes.trans hDB
            have ab4:RB.heap[I.heap.size]?=some (.deferred (some [])):=by rw[aah];exact(World.putObj_heap_other (by omega)).trans adQ
            have abF:dH CR J.env J.au { Hq with defers:=[{ target:=.collected I.heap.size,args := #[] }]++Hq.defers }:=(Dc.ext V0.ext).defers _
            have fin:∀(OB:Ctx) (Ul:Act) (OC:World),Rel OB s.h OC→dH OB s.env s.au Ul→cF CR RB OB OC→Ul.defers=[{ target:=.collected I.heap.size,args := #[] }] →
              LeavesInM Fence.wide 0 C.P fn Ul.tmps (fun e w'=>∃c',e=.returned (conc c' v)∧wf c' v∧Rel c' dz w'∧cF c w c' w') Ul.defers .returning OC:=by
             intro OB Ul OC acR acS V1 acT
             have acU:I.heap.size<RB.heap.size:=(Array.getElem?_eq_some_iff.1 ab4).1
             obtain⟨aet,aeu⟩:=V1.MR acU aer
             have adR:OC.heap[I.heap.size]?=some (.deferred (some [])):=aeu.trans ab4
             have acV:Rel OB s.h (OC.putObj I.heap.size (.deferred none)):=acR.other aet
             have I8:cF c w OB (OC.putObj I.heap.size (.deferred none)):=(((nR.trans F9).trans V0).trans V1).aac (bX nR.size F9.size)
             rw[acT]
             refine⟨by simp,.inl ⟨I.heap.size,_,rfl,run_takeDeferred adR,?_⟩⟩
             cases Df:mapO (resV C.P s) fn.results.toList with
             |none=>simp[Df] at wQ
             |some vs =>
              obtain⟨q1,q2⟩:=oB acV acS Df
              refine⟨_,q1,OB,?_⟩
              rw[Df] at wQ
              split at wQ
              ·rename_i v0 BW
               simp only[az] at BW
               subst BW
               simp only[az,bJ] at wQ
               obtain⟨rfl,rfl⟩:=wQ
               exact⟨by simp,q2 v0 (by simp),acV,I8⟩
              ·rename_i y8 mH BW
               simp only[az] at BW
               subst BW
               simp only[az,bJ] at wQ
               obtain⟨rfl,rfl⟩:=wQ
               refine⟨?_,by simp only[wf,iV];exact q2,acV,I8⟩
               rw[dif_neg]
               ·simp[conc,gu]
               ·intro fC
                simp only[List.size_toArray,jl] at fC
                obtain⟨v0,rfl⟩:=List.length_eq_one_iff.1 fC
                exact mH v0 rfl
              ·cases wQ
            rw[←aah]
            rcases hpd with⟨hp,ex,fX,hex⟩|⟨hp,hs⟩
            ·rw[hp]
             refine wpIn_mono (hS pt _ ex s fX none CR _ RB abE abF) ?_
             rintro e Ul OC ⟨rfl,adS,OB,acR,acS,V1⟩
             have:=fin OB Ul OC acR acS V1 (by rw[adS,aad];rfl)
             rcases hex with rfl|rfl
             ·exact this
             ·exact this
            ·rw[hp]
             subst hs
             exact wpIn_ret (fin CR _ RB abE abF (cF.refl _ _) (by rw[aad];rfl))
          split at hr
          ·rename_i aeN aeO aeP aeQ aeR GW
           have one:∀ex s,ev C n pt ⟨J.env,J.au,Du.put J.h.next none⟩=some (ex,s)→(ex=.normal∨ex=.ret)→_→eZ C.P f args c w v dz:=fun ex s fX hex wQ=>tail _ s GW (by simp) (fun CR OA ho=>by
            obtain⟨aeS,ad3,aeU,RA,_⟩:=ho
            exact⟨_,RA,by simp,.inl ⟨rfl,ex,fX,hex⟩⟩) wQ
           split at hr
           ·rename_i s fX
            exact one .normal s fX (.inl rfl) hr
           ·rename_i s fX
            exact one .ret s fX (.inr rfl) hr
           ·cases hr
          ·rename_i GW
           exact tail _ ⟨J.env,J.au,Du.put J.h.next none⟩ GW (by simp) (fun CR OA ⟨rr,b1,b2,b3⟩=>⟨rr,b1,by simp[b2],.inr ⟨b3,rfl⟩⟩) hr
          ·cases hr
        ·cases hr
       ·cases hr
      ·cases hr
     ·cases hr
end
end Go.Proofs.YtefepnnfphdkpaaGreat.Am
namespace Go.Proofs.YtefepnnfphdkpaaGreat.Am
open Go
variable {X Y:aL} {C:fc} {code mB:Code} {c':Ctx} {d:qR} {ε af:aX} {A:aX→aL} {lv dd:aX→Prop} {env:Env} {Q:Ex→List (Nat×V)→H→Prop} {fn:Func} {cl:Go.Call} {o:Go.Obj} {h σ:H} {P P' P0:Int→List Nat} {now:List (Int×List Nat)} {dy:List (List Nat)} {E Ee:List (Nat×V)} {S:List aL} {U:List Bool} {zs:List Int} {dX L M b R l c data ps M':List Nat} {cs args us Rt ds vs:List V} {n f i N tx K B aO a id k g q r aC link extra j left p4 p5 p6 p2 p3 z nx acc:Nat} {G:Prop} {e t t':TypeId} {y x rv cv pv bv u uv sv wv tv hv lnv kv:V} {w':World}
section
variable {o:Oper}
theorem OpR.yield {x:Operand}{au:Nat}{e:Env}{bd:Code}{R:V→H→Prop}(J:o.op=.call cl)(hc:cl.callee=.value x)(hx:bA E x=some (.yO id))(ha:lookArgs E cl.args.toList=some args)
 (hg:T.get h.tr id=some (.loop false au env ps mB bd))(hb:bindPs au ps args env=some e)(he:iX e Ee)
 (hw:WP C au mB Ee h fun ex E1 h1=>ex=.normal∧T.get h1.tr id=some (.loop false au env ps mB bd)∧WP C au bd E1 (h1.put id (some (.loop true au env ps mB bd))) fun ex E2 h2=>ex=.normal∧T.get h2.tr id=some (.loop true au env ps mB bd)∧R (.bool true) (h2.put id (some (.loop false au env ps mB bd)))):
  OpR C E h o R:=by
 obtain⟨N1,Rz,I,h1,E1,a1,a2,rfl,a4,kG⟩:=hw e he
 obtain⟨N2,mJ,yE,h2,E2,b1,b2,rfl,b4,b5⟩:=kG I a2
 refine⟨.bool true,_,b5,fun FG hE=>⟨max N1 N2,?_⟩⟩
 have c1:=dA (C:=C) (nr N1 N2) _ _ _ a1
 have c2:=dA (C:=C) (nk N1 N2) _ _ _ b1
 simp only[evOp,J,evCall,ki hE ha,hc,bU hE hx,callV,roundV,hg,hb,c1,a4,c2,b4]
theorem OpR.JT {x:Operand}{au:Nat}{e:Env}{bd:Code}{R:V→H→Prop}(J:o.op=.call cl)(hc:cl.callee=.value x)(hx:bA E x=some (.yO id))(ha:lookArgs E cl.args.toList=some args)
 (hg:T.get h.tr id=some (.loop false au env ps mB bd))(hb:bindPs au ps args env=some e)(he:iX e Ee)
 (hw:WP C au mB Ee h fun ex E1 h1=>ex=.normal∧T.get h1.tr id=some (.loop false au env ps mB bd)∧WP C au bd E1 (h1.put id (some (.loop true au env ps mB bd))) fun ex E2 h2=>ex=.ret∧T.get h2.tr id=some (.loop true au env ps mB bd)∧R (.bool false) (h2.put id (some .tj))):
  OpR C E h o R:=by
 obtain⟨N1,Rz,I,h1,E1,a1,a2,rfl,a4,kG⟩:=hw e he
 obtain⟨N2,mJ,yE,h2,E2,b1,b2,rfl,b4,b5⟩:=kG I a2
 refine⟨.bool false,_,b5,fun FG hE=>⟨max N1 N2,?_⟩⟩
 have c1:=dA (C:=C) (nr N1 N2) _ _ _ a1
 have c2:=dA (C:=C) (nk N1 N2) _ _ _ b1
 simp only[evOp,J,evCall,ki hE ha,hc,bU hE hx,callV,roundV,hg,hb,c1,a4,c2,b4]
theorem JU {f:FuncId}{a b t bd:Code}{lq:Nat}{x:Operand}{ps:Array Tmp}{R:V→H→Prop}(hf:C.P.funcs[f]?=some fn)(hb:fn.body=some code)(hl:Nat.blt fn.ntmps args.length=false)(hp:rangeParts code=some (a,b,lq,x,ps,mB,bd,t))
 (hw:WP C fn.ntmps a (argE args 0) h fun ex E1 h1=>ex=.normal∧WP C fn.ntmps b E1 h1 fun ex E2 h2=>ex=.normal∧∃cap,bA E2 x=some (.fn (.func g) [] cap)∧∀env,iX env E2→∃u h3,gO C g (.yO h2.next::cap) (h2.new (.loop false fn.ntmps env ps.toList mB bd)) u h3 ∧
   ((T.get h3.tr h2.next=some (.loop false fn.ntmps env ps.toList mB bd)∧WP C fn.ntmps t E2 (h3.put h2.next none) fun ex E4 h4=>(match ex with|.exit _=>False|_=>True)∧∃v,resLE C.P E4 h4 fn.results.toList=some v∧R v h4) ∨
    (T.get h3.tr h2.next=some .tj∧∃v,resLE C.P E2 (h3.put h2.next none) fn.results.toList=some v∧R v (h3.put h2.next none)))):
  ∃v h2,(∃N0,∀N,N0≤N→toldRange C N f args h=some (v,h2))∧R v h2:=by
 obtain⟨N1,Rz,acW,h1,E1,a1,a2,rfl,kG⟩:=hw _ (ur args)
 obtain⟨N2,mJ,yE,h2,E2,b1,b2,rfl,cap,b4,vb⟩:=kG acW a2
 obtain⟨u,h3,⟨N3,c1⟩,V2⟩:=vb yE b2
 have res:∀ {E4:List (Nat×V)} {JV:Env} {h4:H} {v:V},iX JV E4→resLE C.P E4 h4 fn.results.toList=some v→∃vs,mapO (resV C.P ⟨JV,fn.ntmps,h4⟩) fn.results.toList=some vs∧(match vs with|[w]=>some w|vs=>some (.bf vs))=some v:=fun {E4 JV h4 v} d2 I=>by
  unfold resLE at I
  cases hm:mapO (resE C.P E4 h4) fn.results.toList with
  |none=>rw[hm] at I;cases I
  |some vs =>
   rw[hm] at I
   refine⟨vs,wT (P:=C.P) (s:=⟨JV,fn.ntmps,h4⟩) d2 hm,?_⟩
   match vs,I with
   |[],I=>exact I
   |[_],I=>exact I
   |_::_::_,I=>exact I
 rcases V2 with⟨c2,V2⟩|⟨c2,v,I,hR⟩
 ·obtain⟨N4,ex4,JV,h4,E4,d1,d2,hx,v,I,hR⟩:=V2 yE b2
  refine⟨v,h4,⟨max (max N1 N2) (max N3 N4),fun N hN => ?_⟩,hR⟩
  have m1:=dA (C:=C) (show N1≤N by omega) _ _ _ a1
  have m2:=dA (C:=C) (show N2≤N by omega) _ _ _ b1
  have m3:=mR (dA (C:=C) (show N3≤N by omega)) c1
  have m4:=dA (C:=C) (show N4≤N by omega) _ _ _ d1
  obtain⟨vs,e3,J⟩:=res d2 I
  unfold toldRange
  simp only[hf,hb,hl,aY,hp,m1,m2,bU b2 b4,m3,c2,m4]
  cases ex4 with
  |exit i=>exact hx.elim
  |normal =>
   simp only[e3]
   match vs,J with
   |[],J=>simp only[az] at J;rw[←J]
   |[_],J=>simp only[az] at J;rw[←J]
   |_::_::_,J=>simp only[az] at J;rw[←J]
  |ret =>
   simp only[e3]
   match vs,J with
   |[],J=>simp only[az] at J;rw[←J]
   |[_],J=>simp only[az] at J;rw[←J]
   |_::_::_,J=>simp only[az] at J;rw[←J]
 ·refine⟨v,_,⟨max (max N1 N2) N3,fun N hN => ?_⟩,hR⟩
  have m1:=dA (C:=C) (show N1≤N by omega) _ _ _ a1
  have m2:=dA (C:=C) (show N2≤N by omega) _ _ _ b1
  have m3:=mR (dA (C:=C) (show N3≤N by omega)) c1
  obtain⟨vs,e3,J⟩:=res b2 I
  unfold toldRange
  simp only[hf,hb,hl,aY,hp,m1,m2,bU b2 b4,m3,c2,e3]
  match vs,J with
  |[],J=>simp only[az] at J;rw[←J]
  |[_],J=>simp only[az] at J;rw[←J]
  |_::_::_,J=>simp only[az] at J;rw[←J]
end
def JW (f:FuncId)(args:List V)(h:H)(r:V×H): Prop:=∃I,∀N,I≤N→toldRange CB N f args h=some r
theorem Call.range {told:cR}{f:FuncId}{R:V→H→Prop}(ht:told f=some (iZ Tryz.prog f (JW f)))(hf:Tryz.prog.funcs[f]?=some fn)(hb:fn.body.isSome=true)
 (hd:∃v I,(∃J,∀N,J≤N→toldRange CB N f args h=some (v,I))∧R v I): Call ⟨Tryz.prog,told⟩ f args h R:=by
 obtain⟨v,I,⟨J,h0⟩,hR⟩:=hd
 obtain⟨r,e1,N1,h1⟩:=sP (P:=Tryz.prog) (f:=f) (jj:=JW f) (args:=args) (h:=h) (r:=(v,I)) ⟨J,h0⟩ (fun c w tq hw=>JS (C:=CB) iy fF (h0 J (aU _)) tq hw)
 have:r=(v,I):=by
  have a:=h0 (max J N1) (by omega)
  have b:=h1 (max J N1) (by omega)
  rw[a] at b
  exact(cA b).symm
 subst this
 exact⟨v,I,gO.told ht hf hb e1,hR⟩
def sY (i:Nat)(c:Code): Code:=match rangeParts c with
 |some (a,b,_,_,_,mB,bd,t)=>match i with
  |0=>a
  |1=>b
  |2=>mB
  |3=>bd
  |_=>t
 |none=>.skip
def mO (P:Int→List Nat): List Nat→List (List Nat)→Prop
 |[],[]=>True
 |p::ps,c::cs=>dR (P p) 203 (ps.headD 0) (ps.length+1) [c]∧mO P ps cs
 |_,_=>False
theorem mO.len : ∀ {ps:List Nat} {cs:List (List Nat)},mO P ps cs→ps.length=cs.length:=by
 intro ps
 induction ps with
 |nil=>intro cs h;cases cs with
  |nil=>rfl
  |cons c cs=>exact h.elim
 |cons p ps I=>intro cs h;cases cs with
  |nil=>exact h.elim
  |cons c cs=>simp only[bF,I h.2]
inductive Rd (N:Nat)(P:Int→List Nat): Nat→Nat→Option (List Nat×List Nat)→Prop
 |bad {left p:Nat}:p<N→(P p).length=512→bW (P p)=false→Rd N P left p none
 |many {left p l e:Nat} {c:List Nat}:p<N→dR (P p) 203 l e [c]→left<e→Rd N P left p none
 |last {left p l e:Nat} {c:List Nat}:p<N→dR (P p) 203 l e [c]→e≤1→e≤left→Rd N P left p (some ([p],c))
 |more {left p l e:Nat} {c:List Nat} {r:Option (List Nat×List Nat)}:p<N→dR (P p) 203 l (e+2) [c]→e+2≤left→e+2≤1001→Rd N P (e+1) l r→Rd N P left p (r.map fun x=>(p::x.1,c++x.2))
theorem Rd.inv {p:Nat}{r:Option (List Nat×List Nat)}(h:Rd N P left p r): p<N∧(P p).length=512∧((bW (P p)=false∧r=none)∨∃l e c,dR (P p) 203 l e [c] ∧
  ((left<e∧r=none)∨(e≤1∧e≤left∧r=some ([p],c))∨∃k r',e=k+2∧e≤left∧e≤1001∧Rd N P (k+1) l r'∧r=r'.map fun x=>(p::x.1,c++x.2))):=by
 cases h with
 |bad J I h3=>grind
 |many J I h3=>exact⟨J,I.len,.inr ⟨_,_,_,I,.inl ⟨h3,rfl⟩⟩⟩
 |last J I h3 h4=>exact⟨J,I.len,.inr ⟨_,_,_,I,.inr (.inl ⟨h3,h4,rfl⟩)⟩⟩
 |more J I h3 h4 h5=>exact⟨J,I.len,.inr ⟨_,_,_,I,.inr (.inr ⟨_,_,rfl,h3,h4,h5,rfl⟩)⟩⟩
def flatL : List (List Nat)→List Nat
 |[]=>[]
 |c::cs=>c++flatL cs
theorem Um {l e:Nat}(h:dR b k l e [c]): c.length≤482:=by
 have:=h.fits
 grind[tot]
theorem Rd.sz {p:Nat}{r:Option (List Nat×List Nat)}(h:Rd N P left p r): ∀x,r=some x→x.1.length≤max 1 (min left 1001)∧x.2.length≤482*x.1.length:=by
 induction h with
 |bad _ _ _=>simp
 |many _ _ _=>simp
 |last _ I _ _=>grind[Um]
 |@more left p l e c r J I h3 h4 h5 ih =>
  cases r<;>grind[Um]
theorem Rd.hd {p:Nat}{I:List Nat}(h:Rd N P left p (some (ps,I))): ∃qs,ps=p::qs:=by
 obtain⟨_,_,⟨_,q⟩|⟨_,_,_,_,⟨_,q⟩|⟨_,_,q⟩|⟨_,r,_,_,_,_,q⟩⟩⟩:=h.inv
 ·cases q
 ·cases q
 ·grind
 ·cases r with
  |none=>cases q
  |some y=>grind
theorem mO.rd : ∀ {ps:List Nat} {cs:List (List Nat)} {p left:Nat},mO P (p::ps) cs→(∀x∈p::ps,x<N)→ps.length+1≤left→ps.length≤1000→Rd N P left p (some (p::ps,flatL cs)):=by
 intro ps
 induction ps with
 |nil=>intro cs p left h I J _;cases cs with
  |nil=>exact h.elim
  |cons c cs =>
   obtain rfl:cs=[]:=nf h.2.len.symm
   have:=Rd.last (left:=left) (I p bZ) h.1 (aU _) J
   simpa[flatL] using this
 |cons q ps ih=>intro cs p left h I J iW;cases cs with
  |nil=>exact h.elim
  |cons c cs =>
   rw[bF] at J iW
   exact Rd.more (I p bZ) h.1 J (by omega) (ih (left:=ps.length+1) h.2 (fun x m=>I x (b8 _ m)) (aU _) (by omega))
section
variable {told:cR} {v:V} {cs:List (List Nat)} {pg:aX→Int→List Nat}
noncomputable def alA : Code:=sY 0 ((Tryz.f50.body).getD .skip)
noncomputable def alB : Code:=sY 1 ((Tryz.f50.body).getD .skip)
noncomputable def nP : Code:=sY 2 ((Tryz.f50.body).getD .skip)
noncomputable def nQ : Code:=sY 3 ((Tryz.f50.body).getD .skip)
noncomputable def alT : Code:=sY 4 ((Tryz.f50.body).getD .skip)
theorem Un (hT:W told){db:List Nat}{dp:List Nat}(vi:dp.length≤65536)(B5:db.length≤1048576)(V3:c.length≤482)
 (s:Sat h (pt id (.loop false 36 env [12,13] nP nQ)::pt p4 (.cells 1 [pv] false)::pt p5 (.cells 1 [bv] false)::.arr 1 pv (bG dp)::aQ bv db::aQ cv c::S))
 (hE:Has E [(4,.ptr p4 0),(5,.ptr p5 0),(12,.agg [.int .i64 (n:Int),cv]),(13,.int .i64 0)]){Q:V→H→Prop}
 (hq:∀xx yZ h',Sat h' (pt id (.loop false 36 env [12,13] nP nQ)::pt p4 (.cells 1 [xx] false)::pt p5 (.cells 1 [yZ] false)::.arr 1 xx (bG (dp++[n]))::aQ yZ (db++c)::S)→Q (.bool true) h'):
  WP ⟨Tryz.prog,told⟩ 36 nP E h fun ex E1 h1=>ex=.normal∧T.get h1.tr id=some (.loop false 36 env [12,13] nP nQ)∧WP ⟨Tryz.prog,told⟩ 36 nQ E1 (h1.put id (some (.loop true 36 env [12,13] nP nQ))) fun ex E2 h2=>ex=.normal∧T.get h2.tr id=some (.loop true 36 env [12,13] nP nQ)∧Q (.bool true) (h2.put id (some (.loop false 36 env [12,13] nP nQ))):=by
 have C4:=(s.buf (k:=5) rfl).view.cells
 have fX:([V.int .i64 (n:Int),cv]:List V).all storable=true:=by simp only[iT,iU,C4.2];rfl
 refine WP.has hE (zg rfl ?_)
 refine ax.cm s rfl rfl rfl (b6 VD) (fun p7 h s => ?_)
 dsimp only[V.cells,List.length_cons,List.length_nil,Nat.reduceAdd] at s
 refine zS rfl (s.fS (j:=0) rfl VC rfl fX) ?_
 intro h s
 dsimp only[setA] at s
 refine zv (zr rfl (za rfl (zv ?_)))
 refine⟨rfl,s.row (k:=1) rfl,?_⟩
 have s:=s.put (k:=1) (o':=.loop true 36 env [12,13] nP nQ) rfl
 generalize h.put id (some (.loop true 36 env [12,13] nP nQ))=h at s
 have sF:=s.ju (j:=4) rfl
 have I:=dB (s.buf (k:=5) rfl).view
 have J:=dB (s.buf (k:=6) rfl).view
 refine WP.block (zK 4 rfl (zC rfl aE (rfl) (zk 3 rfl ?_)))
 have s0:=s
 refine WP.drawn [some (0,2),ah,ah,ah,ah,some (0,3),some (0,3),some (0,3),ah,ah,ah] rfl (by kernel_rfl) (by kernel_rfl) ?_
 refine zL rfl (s.ld (k:=2) rfl ob rfl) (zF rfl (W9 _ _) (zL rfl (s.ld (k:=0) rfl dN rfl) ?_))
 obtain⟨iv,h1,e1,s1⟩:=jB (P:=Tryz.prog) (k:=1) (x:=.int .i64 (n:Int)) s cf uO jF rfl (by decide) (by decide) rfl rfl
 dsimp only[V.cells,setA] at s1
 refine ay.any rfl rfl rfl rfl (OpR.of (R:=fun v h'=>v=iv∧h'=h1) (ke rfl e1) ⟨rfl,rfl⟩) ?_
 rintro iv h ⟨rfl,rfl⟩
 have s:=s1.ae [1,1,1,1,1,1,1,0]
 dsimp only[bringA,getA,aI] at s
 have s1:=s
 obtain⟨i1,iu,gW,pz⟩:=od
 obtain⟨w,h2,e2,s2⟩:=gv (s.ae [4,6]) cf iu uO gW (by omega) rfl (by decide) (by grind[gh])
 refine ay.any rfl rfl rfl rfl (OpR.of (R:=fun v h'=>v=w∧h'=h2) (jI rfl rfl e2) ⟨rfl,rfl⟩) ?_
 rintro w h ⟨rfl,rfl⟩
 have hw:=s2
 have s:=(s2.del 1).ae [1,1,1,1,0,0,0]
 have s2:=s
 refine zL rfl (s.ld (k:=3) rfl bE rfl) (zF rfl (L9 _ _) (zL rfl (s.ld (k:=0) rfl bE rfl) (ay.any rfl rfl rfl rfl (OpR.pQ rfl (s.ae [5,5]) (bk _ _) rfl rfl rfl rfl (by omega)) ?_)))
 intro bw h s
 have s:=s.ae [2,2,2,2,2,0,0]
 dsimp only[bringA,getA,aI] at s
 have RC:=s.ju (j:=4) rfl
 have JE:=(s.buf (k:=5) rfl).view.cells
 refine ay.ij rfl rfl rfl (OpR.eA rfl rfl rfl (s.eH (k:=2) rfl IG rfl (by decide) RC.1 RC.2.1)) ?_
 rintro v h ⟨rfl,s⟩
 dsimp only[setA,List.set] at s
 refine ay.ij rfl rfl rfl (OpR.eA rfl rfl rfl (s.eH (k:=3) rfl gU rfl (by decide) JE.1 JE.2)) ?_
 rintro v h ⟨rfl,s⟩
 dsimp only[setA,List.set] at s
 refine ay.nil ⟨⟨eE (.inr ⟨rfl,⟨_,aZ rfl (s0.ld (k:=2) rfl ob rfl)⟩,sF.2.2⟩) (.inr ⟨rfl,⟨_,aZ rfl (s1.ld (k:=2) rfl ob rfl)⟩,sF.2.2⟩),aa,aa,aa,aa,qU (.inr ⟨rfl,⟨_,aZ rfl (s0.ld (k:=3) rfl bE rfl)⟩,I⟩) (.inr ⟨rfl,⟨_,aZ rfl (s1.ld (k:=3) rfl bE rfl)⟩,I⟩) (.inr ⟨rfl,⟨_,aZ rfl (s2.ld (k:=3) rfl bE rfl)⟩,I⟩),fun _ _=>.inr ⟨rfl,⟨_,lE rfl (L9 _ _)⟩,bH _ rfl⟩,qU (.inr ⟨rfl,⟨_,aZ rfl (s0.ld (k:=0) rfl bE rfl)⟩,J⟩) (.inr ⟨rfl,⟨_,aZ rfl (s1.ld (k:=0) rfl bE rfl)⟩,J⟩) (.inr ⟨rfl,⟨_,aZ rfl (s2.ld (k:=0) rfl bE rfl)⟩,J⟩),aa,aa,aa,aa⟩,?_⟩
 refine⟨rfl,s.row (k:=1) rfl,hq w bw _ ?_⟩
 have s:=s.put (k:=1) (o':=.loop false 36 env [12,13] nP nQ) rfl
 dsimp only[setA] at s
 have e:bG (dp++[n])=bG dp++[.int .i64 (n:Int)]:=by simp[bG]
 rw[e]
 exact((s.ae [1,1,1,1,1]).del 6).del 5
theorem FR {e:Int}(he:e≠0)(s:Sat h (pt id (.loop false 36 env [12,13] nP nQ)::pt p4 (.cells 1 [pv] false)::pt p5 (.cells 1 [bv] false)::pt p6 (.cells 1 [v] false)::S))
 (hE:Has E [(4,.ptr p4 0),(5,.ptr p5 0),(6,.ptr p6 0),(12,.agg [.int .i64 0,.a_]),(13,.int .i64 e)]){Q:V→H→Prop}
 (hq:∀h',Sat h' (pt id .tj::pt p4 (.cells 1 [.a_] false)::pt p5 (.cells 1 [.a_] false)::pt p6 (.cells 1 [.int .i64 e] false)::S)→Q (.bool false) h'):
  WP ⟨Tryz.prog,told⟩ 36 nP E h fun ex E1 I=>ex=.normal∧T.get I.tr id=some (.loop false 36 env [12,13] nP nQ)∧WP ⟨Tryz.prog,told⟩ 36 nQ E1 (I.put id (some (.loop true 36 env [12,13] nP nQ))) fun ex E2 J=>ex=.ret∧T.get J.tr id=some (.loop true 36 env [12,13] nP nQ)∧Q (.bool false) (J.put id (some .tj)):=by
 refine WP.has hE (zg rfl ?_)
 refine ax.cm s rfl rfl rfl (b6 VD) (fun p7 h s => ?_)
 dsimp only[V.cells,List.length_cons,List.length_nil,Nat.reduceAdd] at s
 refine zS rfl (s.fS (j:=0) rfl VC rfl rfl) ?_
 intro h s
 dsimp only[setA] at s
 refine zv (zr rfl (za rfl (zv ?_)))
 refine⟨rfl,s.row (k:=1) rfl,?_⟩
 have s:=s.put (k:=1) (o':=.loop true 36 env [12,13] nP nQ) rfl
 generalize h.put id (some (.loop true 36 env [12,13] nP nQ))=h at s
 refine WP.block (zK 4 rfl (zB rfl aE (by grind) ?_))
 refine zk 5 rfl (zS rfl (s.eH (k:=2) rfl IG rfl (by decide) rfl rfl) ?_)
 intro h s
 refine zS rfl (s.eH (k:=3) rfl gU rfl (by decide) rfl rfl) ?_
 intro h s
 refine zS rfl (s.eH (k:=4) rfl Zz rfl (by decide) rfl rfl) ?_
 intro h s
 refine zv (WP.ret ?_)
 refine⟨rfl,s.row (k:=1) rfl,hq _ ?_⟩
 have s:=s.put (k:=1) (o':=.tj) rfl
 exact s.drop
end
theorem V4 {P:Program}{b c t t' I:Nat}{p q r v w:V}(J:look E a=some p)(d1:loadV P h t p=some u)(h2:look E b=some q)(d2:loadV P h t' q=some v)(h3:look E c=some r)(d3:loadV P h I r=some w):
  resLE P E h [.cell a t,.cell b t',.cell c I]=some (.bf [u,v,w]):=by simp only[resLE,mapO,resE,J,d1,h2,d2,h3,d3]
structure En (v:V): Prop where
 cell:v.cells=[v]
 st:storable v=true
 bq:v.beq v=true
section
variable {told:cR} {sm:aX→aX→Prop} {v:V} {cs:List (List Nat)} {pg:aX→Int→List Nat}
def YQ (id p4 p5:Nat)(env:Env)(I J:List Nat)(S:List aL)(v:V)(h:H): Prop:=v=.bool true∧∃pv bv,Sat h (pt id (.loop false 36 env [12,13] nP nQ)::pt p4 (.cells 1 [pv] false)::pt p5 (.cells 1 [bv] false)::.arr 1 pv (bG I)::aQ bv J::S)
def YE (id p4 p5 p6:Nat)(e:Int)(S:List aL)(v:V)(h:H): Prop:=v=.bool false∧Sat h (pt id .tj::pt p4 (.cells 1 [.a_] false)::pt p5 (.cells 1 [.a_] false)::pt p6 (.cells 1 [.int .i64 e] false)::S)
theorem Uo (I:W told)(hv:En rv)(s:Sat h S): Call ⟨Tryz.prog,told⟩ 108 [rv,.int .i64 (n:Int)] h fun v h'=>∃p2 p3,v=.fn (.func 159) [] [.ptr p3 0,.ptr p2 0]∧Sat h' (pt p3 (.cells 1 [.int .i64 (n:Int)] false)::pt p2 (.cells 1 [rv] false)::S):=by
 refine Call.of_wp (I.free _ rfl) Tryz.func108 rfl rfl (zg rfl (ax.cm s rfl rfl rfl (fY rfl (by rw[hv.cell];simp only[iT,iU,hv.st];rfl)) ?_))
 intro p2 h s
 rw[hv.cell] at s
 have s:Sat h (pt p2 (.cells 1 [rv] false)::_):=s
 refine ax.cm s rfl rfl rfl (fY rfl rfl) (fun p3 h s => ?_)
 exact zk 4 rfl (zo rfl (Bu rfl rfl) (zk 2 rfl (WP.ret ⟨aa,_,rfl,p2,_,rfl,s⟩)))
theorem RD (J:W told)(s:Sat h (X::S))(hX:cL X (cQ v b))(hl:b.length=512)(hb:bW b=false):
  Call ⟨Tryz.prog,told⟩ 111 [v,.int .i64 (i:Int)] h fun r h'=>r=.bf [.a_,.int .i64 4]∧Sat h' (X::S):=by
 refine Call.of_wp (J.free _ rfl) Tryz.func111 rfl rfl (zK 8 rfl (zc rfl (sK J s hX (by omega)) ?_))
 rintro r h' ⟨s,(⟨I,rfl⟩|⟨I,rfl⟩)⟩
 ·rw[hb] at I;cases I
 refine zk 3 rfl ?_
 refine ax.cm s rfl rfl rfl (b6 jU) (fun p6 h s => ?_)
 refine zS rfl (s.fS (j:=0) rfl bS rfl rfl) (fun h s => ?_)
 refine zk 3 rfl (WP.block (zK 3 rfl (zB rfl aE (by decide) ?_)))
 exact zk 9 rfl (WP.ret ⟨aa,_,rfl,rfl,s.drop⟩)
def YN (id p4 p5 p6:Nat)(e:Int)(A:aL)(S:List aL)(h:H): Prop:=Sat h (pt id .tj::pt p4 (.cells 1 [.a_] false)::pt p5 (.cells 1 [.a_] false)::pt p6 (.cells 1 [.int .i64 e] false)::A::S)
noncomputable def lkL : Code:=cN [1,1,0,0] ((Tryz.f159.body).getD .skip)
theorem OD (hT:W told)(hR:xn told N lv dd sm rv A pg)(hN:N≤65536)(nX:iX env [(4,.ptr p4 0),(5,.ptr p5 0),(6,.ptr p6 0)]): ∀(left p:Nat) (r:Option (List Nat×List Nat)) (J db:List Nat) (pv bv:V) (ε:aX) (h:H) (E:List (Nat×V)) (Q:Ex→List (Nat×V)→H→Prop),Rd N P left p r→lv ε→(∀m,pg ε m=P m)→1≤left→left≤65536→(J.length=0∨J.length+left≤1001)→db.length≤482*J.length →
  Sat h (pt id (.loop false 36 env [12,13] nP nQ)::pt p4 (.cells 1 [pv] false)::pt p5 (.cells 1 [bv] false)::.arr 1 pv (bG J)::aQ bv db::A ε::pt p2 (.cells 1 [rv] false)::pt p6 (.cells 1 [.int .i64 0] false)::S)→Has E [(0,.yO id),(2,.ptr p2 0),(4,.int .i64 (p:Int)),(5,.int .i64 (left:Int))] →
  (∀ps bs xx yZ af E' h',r=some (ps,bs)→lv af→sm ε af→Sat h' (pt id (.loop false 36 env [12,13] nP nQ)::pt p4 (.cells 1 [xx] false)::pt p5 (.cells 1 [yZ] false)::.arr 1 xx (bG (J++ps))::aQ yZ (db++bs)::A af::pt p2 (.cells 1 [rv] false)::pt p6 (.cells 1 [.int .i64 0] false)::S)→Q .ret E' h') →
  (∀af E' h',r=none→lv af→sm ε af→YN id p4 p5 p6 4 (A af) (pt p2 (.cells 1 [rv] false)::S) h'→Q .ret E' h') →
  (∀af E' h',dd af→YN id p4 p5 p6 9 (A af) (pt p2 (.cells 1 [rv] false)::S) h'→Q .ret E' h')→WP ⟨Tryz.prog,told⟩ 74 (.loop lkL) E h Q:=by
 intro left
 induction left using Nat.strongRecOn with
 |ind left ih =>
  intro p r J db pv bv ε h E Q I eY hP qD iW hdp B5 s hE hq he hd
  obtain⟨hpN,N6,I⟩:=I.inv
  obtain⟨ty,u0,f,rfl,hm,acX⟩:=hR.iface
  rw[←hP] at N6 I
  refine WP.loop (WP.has hE (zK 4 rfl (zB rfl gA (by simp;omega) ?_)))
  refine zk 4 rfl (WP.block (zg rfl (zy s 6 acu rfl (zm rfl (ax.any rfl rfl rfl (OpR.invoke rfl rfl rfl hm rfl (acX (n:=(p:Int)) eY (by omega) (by omega) (s.ae [5]))) ?_)))))
  rintro v h (⟨af,rfl,nW,s⟩|⟨u,af,rfl,rq,hs,s⟩)
  ·skip
   refine zk 10 rfl (zB rfl aE (rfl) (zk 5 rfl (zo rfl (cT (r:=.agg [.int .i64 0,.a_]) rfl (by rw[HO];rfl)) ?_)))
   refine zm rfl ?_
   have s:=s.ae [1,1,1,4]
   dsimp only[aI,bringA,getA] at s
   have tC:=FR (told:=told) (e:=9) (E:=[(13,.int .i64 9),(12,.agg [.int .i64 0,.a_]),(4,.ptr p4 0),(5,.ptr p5 0),(6,.ptr p6 0)]) (Q:=YE id p4 p5 p6 9 (A af::.arr 1 pv (bG J)::aQ bv db::pt p2 (.cells 1 [.iface ty u0] false)::S)) (by decide) s ⟨rfl,rfl,rfl,rfl,rfl,aa⟩ (fun h' s'=>⟨rfl,s'⟩)
   refine ax.any rfl rfl rfl (OpR.JT (R:=YE id p4 p5 p6 9 (A af::.arr 1 pv (bG J)::aQ bv db::pt p2 (.cells 1 [.iface ty u0] false)::S)) rfl rfl rfl rfl (s.row (k:=0) rfl) rfl ((nX.set _ _).set _ _) tC) ?_
   rintro v h ⟨rfl,s⟩
   exact zv (WP.ret (hd af _ _ nW (((s.ae [0,0,0,0,0,2]).del 6).del 6)))
  refine zk 10 rfl (zC rfl aE (rfl) (zk 6 rfl (zc rfl (Fz hT s (bk _ _) (by omega)) ?_)))
  rintro v h ⟨s,(⟨hg,rfl⟩|⟨hg,rfl⟩)⟩
  rotate_left
  ·have hr:r=none:=by
    rcases I with⟨_,q⟩|⟨_,_,_,q,_⟩
    ·exact q
    ·rw[q.good] at hg;cases hg
   refine zk 15 rfl (zc rfl (RD (i:=0) hT s (bk _ _) N6 hg) ?_)
   rintro v h ⟨rfl,s⟩
   refine zk 10 rfl (zB rfl aE (by decide) ?_)
   refine zk 18 rfl (zo rfl (cT (r:=.agg [.int .i64 0,.a_]) rfl (by rw[HO];rfl)) ?_)
   have s:=s.ae [2,2,2,5]
   dsimp only[aI,bringA,getA] at s
   have tC:=FR (told:=told) (e:=4) (E:=[(13,.int .i64 4),(12,.agg [.int .i64 0,.a_]),(4,.ptr p4 0),(5,.ptr p5 0),(6,.ptr p6 0)]) (Q:=YE id p4 p5 p6 4 (aQ u (pg ε p)::A af::.arr 1 pv (bG J)::aQ bv db::pt p2 (.cells 1 [.iface ty u0] false)::S)) (by decide) s ⟨rfl,rfl,rfl,rfl,rfl,aa⟩ (fun h' s'=>⟨rfl,s'⟩)
   refine ax.any rfl rfl rfl (OpR.JT (R:=YE id p4 p5 p6 4 (aQ u (pg ε p)::A af::.arr 1 pv (bG J)::aQ bv db::pt p2 (.cells 1 [.iface ty u0] false)::S)) rfl rfl rfl rfl (s.row (k:=0) rfl) rfl ((nX.set _ _).set _ _) tC) ?_
   rintro v h ⟨rfl,s⟩
   exact zv (WP.ret (he af _ _ hr rq hs ((((s.ae [0,0,0,0,1,3]).del 6).del 6).del 6)))
  have I:=I.resolve_left fun q=>by rw[q.1] at hg;cases hg
  obtain⟨l,e,c,hp,I⟩:=I
  have V3:=Um hp
  rw[show(pg ε p).getD 12 0=203 from hp.kind,show dh (pg ε p) 18 4=l from hp.link,show dh (pg ε p) 22 4=e from hp.extra]
  refine zk 15 rfl (zc rfl (JC (i:=0) hT s (bk _ _) hp rfl) ?_)
  rintro v h ⟨u2,rfl,s⟩
  have C4:=(s.buf (k:=0) rfl).view.cells
  refine zk 10 rfl (zC rfl aE (by decide) ?_)
  refine zk 2 rfl (zC rfl aE (by decide) ?_)
  refine zk 3 rfl (zC rfl aE (by decide) ?_)
  refine zk 4 rfl ?_
  by_cases hle:left<e
  ·have hr:r=none:=by
    rcases I with⟨_,q⟩|⟨_,q,_⟩|⟨_,_,_,q,_⟩
    ·exact q
    ·omega
    ·omega
   refine zB rfl gA (by simp;omega) ?_
   refine zk 6 rfl (zo rfl (cT (r:=.agg [.int .i64 0,.a_]) rfl (by rw[HO];rfl)) ?_)
   have s:=s.ae [3,3,3,6]
   dsimp only[aI,bringA,getA] at s
   have tC:=FR (told:=told) (e:=4) (E:=[(13,.int .i64 4),(12,.agg [.int .i64 0,.a_]),(4,.ptr p4 0),(5,.ptr p5 0),(6,.ptr p6 0)]) (Q:=YE id p4 p5 p6 4 (aQ u2 c::aQ u (pg ε p)::A af::.arr 1 pv (bG J)::aQ bv db::pt p2 (.cells 1 [.iface ty u0] false)::S)) (by decide) s ⟨rfl,rfl,rfl,rfl,rfl,aa⟩ (fun h' s'=>⟨rfl,s'⟩)
   refine ax.any rfl rfl rfl (OpR.JT (R:=YE id p4 p5 p6 4 (aQ u2 c::aQ u (pg ε p)::A af::.arr 1 pv (bG J)::aQ bv db::pt p2 (.cells 1 [.iface ty u0] false)::S)) rfl rfl rfl rfl (s.row (k:=0) rfl) rfl ((nX.set _ _).set _ _) tC) ?_
   rintro v h ⟨rfl,s⟩
   exact zv (WP.ret (he af _ _ hr rq hs (((((s.ae [0,0,0,0,2,4]).del 6).del 6).del 6).del 6)))
  refine zC rfl gA (by simp;omega) ?_
  have s:=s.ae [3,3,3,3,3,0]
  dsimp only[aI,bringA,getA] at s
  refine zk 10 rfl (zo rfl (cT (r:=.agg [.int .i64 (p:Int),u2]) rfl (by rw[HO];simp only[fillV,C4.1];rfl)) ?_)
  have tC:=Un (told:=told) (E:=[(13,.int .i64 0),(12,.agg [.int .i64 (p:Int),u2]),(4,.ptr p4 0),(5,.ptr p5 0),(6,.ptr p6 0)]) (Q:=YQ id p4 p5 env (J++[p]) (db++c) (aQ u (pg ε p)::A af::pt p2 (.cells 1 [.iface ty u0] false)::pt p6 (.cells 1 [.int .i64 0] false)::S)) hT (by omega) (by omega) V3 s ⟨rfl,rfl,rfl,rfl,aa⟩ (fun xx yZ h' s'=>⟨rfl,xx,yZ,s'⟩)
  refine ax.any rfl rfl rfl (OpR.yield (R:=YQ id p4 p5 env (J++[p]) (db++c) (aQ u (pg ε p)::A af::pt p2 (.cells 1 [.iface ty u0] false)::pt p6 (.cells 1 [.int .i64 0] false)::S)) rfl rfl rfl rfl (s.row (k:=0) rfl) rfl ((nX.set _ _).set _ _) tC) ?_
  rintro v h ⟨rfl,xx,yZ,s⟩
  refine zo rfl (er rfl rfl) (zk 2 rfl ?_)
  rcases I with⟨q,_⟩|⟨q,_,rfl⟩|⟨k,r',rfl,q1,q2,q3,rfl⟩
  ·omega
  ·skip
   refine zt rfl (aA rfl rfl uN) (by simp;omega) ?_
   refine zk 3 rfl (WP.ret ?_)
   have s:=s.ae [0,0,0,0,0,1,1]
   dsimp only[bringA,getA,aI] at s
   exact hq [p] c xx yZ af _ _ rfl rq hs (s.del 7)
  ·skip
   refine zC rfl uN (by simp;omega) ?_
   refine zp rfl (zv (zj rfl (WP.skip (zr rfl (zk 4 rfl (zv (zr rfl (zm rfl (zo rfl (aA (r:=.int .i64 ((k+1:Nat):Int)) rfl rfl (by rw[show((k+1:Nat):Int)=((k+2:Nat):Int)-1 by omega];exact iM (aB (by omega) (by omega)))) ?_)))))))))
   refine za rfl (zv ?_)
   have s:=s.ae [0,0,0,0,0,1,1]
   refine ih (k+1) (by omega) l r' (J++[p]) (db++c) xx yZ af _ _ Q q3 rq (fun m=>(hR.same hs m).trans (hP m)) (by omega) (by omega) (.inr (by rw[bV,EF];omega)) (by rw[bV,bV,EF];omega) (s.del 7) ⟨rfl,rfl,rfl,rfl,aa⟩ (fun ps bs pv2 bv2 fM E2 h2 g0 g1 g2 g3 => ?_) (fun fM E2 h2 g0 g1 g2 g3=>he fM E2 h2 (by rw[g0];rfl) g1 (hR.tr hs g2) g3) hd
   refine hq (p::ps) (c++bs) pv2 bv2 fM E2 h2 (by rw[g0];rfl) g1 (hR.tr hs g2) ?_
   rw[show J++p::ps=(J++[p])++ps by simp,←cP]
   exact g3
end
structure WC (told:cR): Prop where
 w:W told
 fmt:told 31=some (iZ Tryz.prog 31 (FQ 31))
 all:told 50=some (iZ Tryz.prog 50 (JW 50))
section
variable {told:cR} {sm:aX→aX→Prop} {v:V} {cs:List (List Nat)} {pg:aX→Int→List Nat}
def AlE (r:Option (List Nat×List Nat))(lv dd:aX→Prop)(sm:aX→aX→Prop)(ε af:aX)(e:Int): Prop:=(e=4∧r=none∧lv af∧sm ε af)∨(e=9∧dd af)
theorem RE (hT:W told)(hR:xn told N lv dd sm rv A pg)(hN:N≤65536)(I:iX env [(4,.ptr p4 0),(5,.ptr p5 0),(6,.ptr p6 0)]){p:Nat}{r:Option (List Nat×List Nat)}(jw:Rd N (pg ε) 65536 p r)(eY:lv ε)
 (s:Sat h (pt id (.loop false 36 env [12,13] nP nQ)::pt p4 (.cells 1 [.a_] false)::pt p5 (.cells 1 [.a_] false)::A ε::pt p2 (.cells 1 [rv] false)::pt p6 (.cells 1 [.int .i64 0] false)::pt p3 (.cells 1 [.int .i64 (p:Int)] false)::S)):
  Call ⟨Tryz.prog,told⟩ 159 [.yO id,.ptr p3 0,.ptr p2 0] h fun v h'=>(∃ps bs pv bv af,r=some (ps,bs)∧lv af∧sm ε af∧Sat h' (pt id (.loop false 36 env [12,13] nP nQ)::pt p4 (.cells 1 [pv] false)::pt p5 (.cells 1 [bv] false)::.arr 1 pv (bG ps)::aQ bv bs::A af::pt p2 (.cells 1 [rv] false)::pt p6 (.cells 1 [.int .i64 0] false)::pt p3 (.cells 1 [.int .i64 (p:Int)] false)::S)) ∨
   ∃e af,AlE r lv dd sm ε af e∧YN id p4 p5 p6 e (A af) (pt p2 (.cells 1 [rv] false)::pt p3 (.cells 1 [.int .i64 (p:Int)] false)::S) h':=by
 refine Call.of_wp (hT.free _ rfl) Tryz.func159 rfl rfl (zg rfl (zy s 6 dN rfl (zk 6 rfl (WP.block ?_))))
 have s:=(s.m6 (k:=1)).DO
 have s:=s.ae [2,2,2,1,0]
 refine OD hT hR hN I 65536 p r [] [] .a_ .a_ ε _ _ _ jw eY (fun _=>rfl) (by decide) (aU _) (.inl rfl) (aU _) s ⟨rfl,rfl,rfl,rfl,aa⟩ (fun ps bs pv bv af E' h' g0 J g2 g3=>⟨aa,_,rfl,.inl ⟨ps,bs,pv,bv,af,g0,J,g2,g3⟩⟩) (fun af E' h' g0 J g2 g3=>⟨aa,_,rfl,.inr ⟨4,af,.inl ⟨rfl,g0,J,g2⟩,g3⟩⟩) (fun af E' h' J g2=>⟨aa,_,rfl,.inr ⟨9,af,.inr ⟨rfl,J⟩,g2⟩⟩)
theorem aai (hR:xn mV N lv dd sm rv A pg)(hv:En rv)(hN:N≤65536){p:Nat}{r:Option (List Nat×List Nat)}(J:Rd N (pg ε) 65536 p r)(eY:lv ε)(s:Sat h (A ε::S)):
  ∃v h2,(∃N0,∀n,N0≤n→toldRange CB n 50 [rv,.int .i64 (p:Int)] h=some (v,h2))∧((∃ps bs w u af,r=some (ps,bs)∧v=.bf [w,u,.int .i64 0]∧lv af∧sm ε af∧Sat h2 (.arr 1 w (bG ps)::aQ u bs::A af::S))∨∃e af,AlE r lv dd sm ε af e∧v=.bf [.a_,.a_,.int .i64 e]∧Sat h2 (A af::S)):=by
 have hT:=W.base
 refine JU (C:=CB) (a:=alA) (b:=alB) (t:=alT) (mB:=nP) (bd:=nQ) (lq:=0) (g:=159) (x:=.tmp 11) (ps := #[12,13]) JN rfl rfl (by kernel_rfl) ?_
 refine zr rfl ?_
 refine ax.cm s rfl rfl rfl (b6 acp) (fun p4 h s => ?_)
 dsimp only[V.cells,List.length_cons,List.length_nil,Nat.reduceAdd] at s
 refine ax.cm s rfl rfl rfl (b6 oT) (fun p5 h s => ?_)
 dsimp only[V.cells,List.length_cons,List.length_nil,Nat.reduceAdd] at s
 refine ax.cm s rfl rfl rfl (b6 ZB) (fun p6 h s => ?_)
 dsimp only[V.cells,List.length_cons,List.length_nil,Nat.reduceAdd] at s
 refine zv ?_
 refine⟨rfl,?_⟩
 refine zr rfl (zm rfl (zm rfl (ax.call rfl rfl rfl rfl rfl rfl rfl (Uo hT hv s) ?_)))
 rintro v h ⟨p2,p3,rfl,s⟩
 refine zv ?_
 refine⟨rfl,_,rfl,fun env nX => ?_⟩
 have s:=s.new (.loop false 36 env [12,13] nP nQ)
 have s:=s.ae [0,4,3,3,1,1,0]
 dsimp only[bringA,getA,aI] at s
 obtain⟨u,h3,sI,⟨ps,bs,pv,bv,af,rfl,rq,hs,s⟩|⟨e,af,hd,s⟩⟩:=RE hT hR hN (nX.sub (Has.sub (F:=[(4,.ptr p4 0),(5,.ptr p5 0),(6,.ptr p6 0)]) ⟨rfl,rfl,rfl,aa⟩)) J eY s
 rotate_left
 ·refine⟨u,h3,sI,.inr ⟨s.row (k:=0) rfl,?_⟩⟩
  have s:=s.kill
  generalize h3.put h.next none=h at s ⊢
  exact⟨_,V4 rfl (s.ld (k:=0) rfl ob rfl) rfl (s.ld (k:=1) rfl bE rfl) rfl (s.ld (k:=2) rfl ZA rfl),.inr ⟨e,af,hd,rfl,((((s.ae [3]).del 5).del 4).del 3).del 2 |>.del 1⟩⟩
 obtain⟨D7,m7⟩:=J.sz _ rfl
 refine⟨u,h3,sI,.inl ⟨s.row (k:=0) rfl,?_⟩⟩
 have s:=s.kill
 generalize h3.put h.next none=h at s ⊢
 have hpb:=s.ju (j:=2) rfl
 have I:=dB (s.buf (k:=3) rfl).view
 have hlen:(bG ps).length=ps.length*1:=by rw[gh,eF]
 simp only at D7 m7
 obtain⟨i1,iu,gW,pz⟩:=od
 refine zw ?_
 have s0:=s
 refine WP.drawn [ah,ah,ah,some (0,2),none,some (0,3),some (0,3),none,some (0,4),ah,ah,ah,ah] rfl (by kernel_rfl) (by kernel_rfl) ?_
 refine zL rfl (by exact s.ld (k:=0) rfl ob rfl) ?_
 refine zO rfl (aN rfl rfl rfl (s.dZ (n:=ps.length) (j:=2) rfl hlen (by decide) cf)) ?_
 obtain⟨wv,h1,e3,s1⟩:=qw (P:=Tryz.prog) s cf iu uO gW (by omega) rfl (by decide) (by decide) (n:=0) (c:=ps.length) (by omega) (by omega)
 refine ay.any rfl rfl rfl rfl (OpR.of (R:=fun v h'=>v=wv∧h'=h1) (qT rfl rfl e3) ⟨rfl,rfl⟩) ?_
 rintro w0 h ⟨rfl,rfl⟩
 have s:Sat h (.arr 1 w0 []::_):=s1
 have s:=s.ae [1,1,1,1,0]
 dsimp only[bringA,getA,aI] at s
 have s1:=s
 obtain⟨w3,h2,e4,s2⟩:=gv (s.ae [4,2]) cf iu uO gW (by omega) rfl (by decide) (by rw[hlen,cG];omega)
 rw[ey] at s2
 dsimp only[bringA,getA,aI] at s2
 refine zL rfl (by exact s.ld (k:=0) rfl ob rfl) ?_
 refine ay.any rfl rfl rfl rfl (OpR.of (R:=fun v h'=>v=w3∧h'=h2) (jI rfl rfl e4) ⟨rfl,rfl⟩) ?_
 rintro w3 h ⟨rfl,rfl⟩
 have s:=s2.ae [2,2,1,1,0]
 dsimp only[bringA,getA,aI] at s
 have s2:=s
 refine zL rfl (by exact s.ld (k:=1) rfl bE rfl) ?_
 refine zO rfl (aN rfl rfl rfl (aW aK (s.aD (k:=3) rfl (bk _ _)))) (ay.any rfl rfl rfl rfl (OpR.sJ rfl s rfl rfl rfl rfl (by omega)) ?_)
 intro u2 h s
 have s:=s.ae [1,1,1,1,1,0]
 dsimp only[bringA,getA,aI] at s
 have s3:=s
 refine zL rfl (by exact s.ld (k:=1) rfl bE rfl) ?_
 refine ay.any rfl rfl rfl rfl (OpR.pQ rfl (s.ae [5,3]) (bk _ _) rfl rfl rfl rfl (by rw[cG];omega)) ?_
 intro u3 h s
 rw[ey] at s
 have s:=s.ae [2,2,2,1,1,0]
 dsimp only[bringA,getA,aI] at s
 have RC:=s.ju (j:=4) rfl
 have JE:=(s.buf (k:=5) rfl).view.cells
 refine ay.ij rfl rfl rfl (OpR.eA rfl rfl rfl (s.eH (k:=0) rfl IG rfl (by decide) RC.1 RC.2.1)) ?_
 rintro v h ⟨rfl,s⟩
 dsimp only[setA,List.set] at s
 refine ay.ij rfl rfl rfl (OpR.eA rfl rfl rfl (s.eH (k:=1) rfl gU rfl (by decide) JE.1 JE.2)) ?_
 rintro v h ⟨rfl,s⟩
 dsimp only[setA,List.set] at s
 refine ay.ij rfl rfl rfl (OpR.eA rfl rfl rfl (s.eH (k:=8) rfl Zz rfl (by decide) rfl rfl)) ?_
 rintro v h ⟨rfl,s⟩
 dsimp only[setA,List.set] at s
 refine ay.nil ⟨⟨aa,aa,aa,eE (.inr ⟨rfl,⟨_,aZ rfl (by exact s0.ld (k:=0) rfl ob rfl)⟩,hpb.2.2⟩) (.inr ⟨rfl,⟨_,aZ rfl (by exact s1.ld (k:=0) rfl ob rfl)⟩,hpb.2.2⟩),aa,qU (.inr ⟨rfl,⟨_,aZ rfl (by exact s0.ld (k:=1) rfl bE rfl)⟩,I⟩) (.inr ⟨rfl,⟨_,aZ rfl (by exact s1.ld (k:=1) rfl bE rfl)⟩,I⟩) (.inr ⟨rfl,⟨_,aZ rfl (by exact s2.ld (k:=1) rfl bE rfl)⟩,I⟩),qU (.inr ⟨rfl,⟨_,aN rfl rfl rfl (aW aK (s0.aD (k:=3) rfl (bk _ _)))⟩,bH _ rfl⟩) (.inr ⟨rfl,⟨_,aN rfl rfl rfl (aW aK (s1.aD (k:=3) rfl (bk _ _)))⟩,bH _ rfl⟩) (.inr ⟨rfl,⟨_,aN rfl rfl rfl (aW aK (s2.aD (k:=3) rfl (bk _ _)))⟩,bH _ rfl⟩),aa,P9 (.inr ⟨rfl,⟨_,aZ rfl (by exact s0.ld (k:=1) rfl bE rfl)⟩,I⟩) (.inr ⟨rfl,⟨_,aZ rfl (by exact s1.ld (k:=1) rfl bE rfl)⟩,I⟩) (.inr ⟨rfl,⟨_,aZ rfl (by exact s2.ld (k:=1) rfl bE rfl)⟩,I⟩) (.inr ⟨rfl,⟨_,aZ rfl (by exact s3.ld (k:=1) rfl bE rfl)⟩,I⟩),aa,aa,aa,aa,aa⟩,?_⟩
 refine WP.ret ?_
 refine⟨aa,_,V4 rfl (s.ld (k:=0) rfl ob rfl) rfl (s.ld (k:=1) rfl bE rfl) rfl (s.ld (k:=8) rfl ZA rfl),.inl ⟨_,_,_,_,af,rfl,rfl,rq,hs,?_⟩⟩
 exact(((((((s.ae [4,4,4]).del 9).del 8).del 7).del 6).del 5).del 4).del 3
theorem JX (hT:WC told)(hR:xn mV N lv dd sm rv A pg)(hv:En rv)(hN:N≤65536){p:Nat}{r:Option (List Nat×List Nat)}(I:Rd N (pg ε) 65536 p r)(J:lv ε)(s:Sat h (A ε::S)):
  Call ⟨Tryz.prog,told⟩ 50 [rv,.int .i64 (p:Int)] h fun v h'=>(∃ps bs w u af,r=some (ps,bs)∧v=.bf [w,u,.int .i64 0]∧lv af∧sm ε af∧Sat h' (.arr 1 w (bG ps)::aQ u bs::A af::S))∨∃e af,AlE r lv dd sm ε af e∧v=.bf [.a_,.a_,.int .i64 e]∧Sat h' (A af::S) :=
 Call.range hT.all JN rfl (aai hR hv hN I J s)
theorem abG (hT:WC told)(hR:xn mV N lv dd sm rv A pg)(hv:En rv)(hN:N≤65536){p:Nat}(I:lv ε)(hc:mO (pg ε) (p::ps) cs)(J:∀x∈p::ps,x<N)(hl:ps.length≤1000)(s:Sat h (A ε::S)):
  Call ⟨Tryz.prog,told⟩ 50 [rv,.int .i64 (p:Int)] h fun v h'=>(∃w u af,v=.bf [w,u,.int .i64 0]∧lv af∧sm ε af∧Sat h' (.arr 1 w (bG (p::ps))::aQ u (flatL cs)::A af::S))∨∃af,v=.bf [.a_,.a_,.int .i64 9]∧dd af∧Sat h' (A af::S) :=
 (JX hT hR hv hN (hc.rd J (by omega) hl) I s).mono fun _ _ k=>by
  rcases k with⟨_,_,w,u,af,e,k1,k2,k3,k4⟩|⟨e,af,⟨_,q,_⟩|⟨rfl,q⟩,k1,k2⟩
  ·cases e
   exact .inl ⟨w,u,af,k1,k2,k3,k4⟩
  ·cases q
  ·exact .inr ⟨af,k1,q,k2⟩
theorem GX (hT:WC told)(hR:tG mV N B rv A pg)(hv:En rv)(hN:N≤65536){p:Nat}{r:Option (List Nat×List Nat)}(jw:Rd N (pg ε) 65536 p r)(eY:EI N B ε)(s:Sat h (A ε::S)):
  Call ⟨Tryz.prog,told⟩ 19 [rv,.int .i64 (p:Int)] h fun v h'=>∃u e af,v=.bf [u,.int .i64 e]∧EI N B af∧Sm N ε af∧((∃ps J,r=some (ps,J)∧e=0∧Sat h' (aQ u J::A af::S))∨(r=none∧e=4∧u=.a_∧Sat h' (A af::S))):=by
 refine Call.of_wp (hT.w.free _ rfl) Tryz.func19 rfl rfl (zK 9 rfl (zc rfl (JX hT hR.m hv hN jw eY s) ?_))
 rintro v h (⟨ps,J,w,u,af,q,rfl,I,hs,s⟩|⟨e,af,⟨rfl,q,I,hs⟩|⟨_,q⟩,rfl,s⟩)
 ·skip
  exact zk 15 rfl (WP.ret ⟨aa,_,rfl,u,0,af,rfl,I,hs,.inl ⟨ps,J,q,rfl,s.drop⟩⟩)
 ·skip
  exact zk 15 rfl (WP.ret ⟨aa,_,rfl,.a_,4,af,rfl,I,hs,.inr ⟨q,rfl,rfl,s⟩⟩)
 ·exact q.elim
theorem Up (hT:WC told)(hR:tG mV N B rv A pg)(hv:En rv)(hN:N≤65536){p:Nat}(I:EI N B ε)(hc:mO (pg ε) (p::ps) cs)(J:∀x∈p::ps,x<N)(hl:ps.length≤1000)(s:Sat h (A ε::S)):
  Call ⟨Tryz.prog,told⟩ 19 [rv,.int .i64 (p:Int)] h fun v h'=>∃u af,v=.bf [u,.int .i64 0]∧EI N B af∧Sm N ε af∧Sat h' (aQ u (flatL cs)::A af::S) :=
 (GX hT hR hv hN (hc.rd J (by omega) hl) I s).mono fun _ _ k=>by
  obtain⟨u,e,af,k1,k2,k3,⟨_,_,q,rfl,k4⟩|⟨q,_⟩⟩:=k
  ·cases q
   exact⟨u,af,k1,k2,k3,k4⟩
  ·cases q
theorem OE (hT:WC told)(hR:tG mV N B rv A pg)(hv:En rv)(hN:N≤65536){p:Nat}{r:Option (List Nat×List Nat)}(J:Rd N (pg ε) 65536 p r)(eY:EI N B ε)(s:Sat h (A ε::S)):
  Call ⟨Tryz.prog,told⟩ 18 [rv,.int .i64 (p:Int)] h fun v h'=>∃w e af,v=.bf [w,.int .i64 e]∧EI N B af∧Sm N ε af∧((∃ps bs,r=some (ps,bs)∧e=0∧Sat h' (.arr 1 w (bG ps)::A af::S))∨(r=none∧e=4∧w=.a_∧Sat h' (A af::S))):=by
 refine Call.of_wp (hT.w.free _ rfl) Tryz.func18 rfl rfl (zK 9 rfl (zc rfl (JX hT hR.m hv hN J eY s) ?_))
 rintro v h (⟨ps,bs,w,u,af,q,rfl,I,hs,s⟩|⟨e,af,⟨rfl,q,I,hs⟩|⟨_,q⟩,rfl,s⟩)
 ·skip
  exact zk 15 rfl (WP.ret ⟨aa,_,rfl,w,0,af,rfl,I,hs,.inl ⟨ps,bs,q,rfl,s.del 1⟩⟩)
 ·skip
  exact zk 15 rfl (WP.ret ⟨aa,_,rfl,.a_,4,af,rfl,I,hs,.inr ⟨q,rfl,rfl,s⟩⟩)
 ·exact q.elim
def iC (n:Nat): Nat:=if n=0 then 1 else(n-1)/480+1
theorem xy (I:W told){n:Int}(J:n<9223372036854775808): Call ⟨Tryz.prog,told⟩ 12 [.int .i64 n] h fun v h'=>v=.int .i64 (iC n.toNat:Nat)∧h'=h:=by
 refine Call.of_wp (I.free _ rfl) Tryz.func12 rfl rfl (zK 8 rfl ?_)
 by_cases h0:n≤0
 ·skip
  refine zB rfl uN (by simp;omega) ?_
  exact zk 6 rfl (WP.ret ⟨aa,_,rfl,by rw[show n.toNat=0 by omega];rfl,rfl⟩)
 ·obtain⟨m,rfl⟩:∃m:Nat,n=(m:Int)+1:=⟨n.toNat-1,by omega⟩
  have hm:(m:Int)+1-1=(m:Int):=by omega
  have hd:m/480≤m:=ue _ _
  refine zC rfl uN (by simp<;>omega) ?_
  refine zk 6 rfl (zo rfl (aA (r:=.int .i64 (m:Int)) rfl rfl ((iM (a:=(m:Int)+1) (b:=1) (aB (by omega) (by omega))).trans (by rw[hm]))) ?_)
  refine zb rfl (yB (a:=m) (b:=480) (by decide) (by omega)) ?_
  refine zb rfl (by exact bC (aB (by omega) (by omega))) ?_
  exact zk 2 rfl (WP.ret ⟨aa,_,rfl,by rw[iC,ak (by omega),show((m:Int)+1).toNat-1=m by omega];rfl,rfl⟩)
end
section
variable {told:cR} {v:V} {kd mJ:Nat} {cs:List (List Nat)} {pg:aX→Int→List Nat}
def mP (f:Nat→Bool)(k:Nat): List Nat:=(List.range k).filter f
theorem JY {f:Nat→Bool}: mP f (k+1)=if f k then mP f k++[k] else mP f k:=by
 grind[mP,List.range_succ]
theorem MS {f:Nat→Bool}: (mP f k).length≤k:=by
 grind[mP]
theorem CS (s:Sat h (.arr 1 v (bG l)::S))(hl:l.length≤1048576):
  ∃I J w h2,buildSliceV Tryz.prog h 33 1 [(0,.int .i64 (k:Int))]=some (I,J)∧appendV Tryz.prog J #[33,33] v I=some (w,h2)∧Sat h2 (.arr 1 w (bG (l++[k]))::S):=by
 obtain⟨I,J,e1,s1⟩:=jB (P:=Tryz.prog) (k:=1) (x:=.int .i64 (k:Int)) s cf uO jF rfl (by decide) (by decide) rfl rfl
 obtain⟨i1,iu,gW,pz⟩:=od
 obtain⟨w,h2,e2,s2⟩:=gv (s1.ae [1,0]) cf iu uO gW (by omega) rfl (by decide) (by simp only[gh,V.cells,bF,cG];omega)
 refine⟨I,J,w,h2,e1,e2,?_⟩
 have e:bG (l++[k])=bG l++[.int .i64 (k:Int)]:=by simp[bG]
 rw[e]
 exact s2.del 1
noncomputable def usL : Code:=cN [1,1,1,1,0,1,0,0,1,1,0,0,1,1,1,1,0,0] ((Tryz.f25.body).getD .skip)
theorem RF (hT:W told)(QD:M.length=375)(hn:n≤3000): ∀(m k:Nat) (v:V) (h:H) (E:List (Nat×V)) (Q:Ex→List (Nat×V)→H→Prop),k+m=n →
  Sat h (.arr 1 v (bG (mP (bt M) k))::aQ u M::S)→Has E [(7,v),(8,.int .i64 0),(10,u),(24,.int .i64 1),(25,.int .i64 0),(42,.int .i64 (n:Int)),(43,.int .i64 (k:Int))] →
  (∀v' E' h',Has E' [(7,v'),(24,.int .i64 1),(25,.int .i64 0)]→Sat h' (.arr 1 v' (bG (mP (bt M) n))::aQ u M::S)→Q (.exit 2) E' h')→WP ⟨Tryz.prog,told⟩ 70 (.loop usL) E h Q:=by
 intro m
 induction m with
 |zero =>
  intro k v h E Q hk s hE hq
  refine WP.loop (WP.has hE (zg rfl (zC rfl bh (by simp;omega) ?_)))
  refine zk 3 rfl (WP.exit ?_)
  obtain rfl:k=n:=by omega
  exact hq v _ _ ⟨rfl,rfl,rfl,aa⟩ s
 |succ m ih =>
  intro k v h E Q hk s hE hq
  have hb:M[k/8]?=some (M[k/8]'(by omega)):=bx _
  have J:M.getD (k/8) 0=M[k/8]'(by omega):=by rw[lW,hb];rfl
  generalize (M[k/8]'(by omega))=x at hb J
  have hv:=(s.buf (k:=1) rfl).view
  have hx:x<256:=hv.1 x (bD hb)
  have AR:x.testBit (k%8)=bt M k:=by rw[bt,J]
  obtain⟨id,off,e1,e2⟩:=eU hv hb
  have VL:x/2^(k%8)<256:=EO (ue _ _) hx
  have QD:=MS (f:=bt M) (k:=k)
  refine WP.loop (WP.has hE (zg rfl (zB rfl bh (by simp;omega) ?_)))
  refine zk 5 rfl (WP.block (zK 9 rfl (zb rfl (yB (a:=k) (b:=8) (by decide) (by omega)) ?_)))
  refine zo rfl (cK (r:=.ptr id off) rfl rfl e1) (zl rfl e2 (zm rfl (zb rfl (CH (a:=k) (b:=8) (by decide)) ?_)))
  refine zb rfl (Rg (a:=x) (k:=k%8) (by omega)) ?_
  refine zb rfl (Rh (b:=1) VL (by decide)) ?_
  cases I:bt M k with
  |true =>
   refine zB rfl JJ (AR.trans I) (zk 5 rfl (zb rfl (by exact kJ (aB (by omega) (by omega))) ?_))
   refine zm rfl (zb rfl (by exact bC (aB (by omega) (by omega))) ?_)
   obtain⟨iv,h1,w,h2,e3,e4,s2⟩:=CS (k:=k) s (by omega)
   have ek:(3000:Int)*0+(k:Int)=(k:Int):=by omega
   rw[ek]
   refine ax.any rfl rfl rfl (OpR.of (R:=fun v h'=>v=iv∧h'=h1) (ke rfl e3) ⟨rfl,rfl⟩) ?_
   rintro iv h1 ⟨rfl,rfl⟩
   refine ax.any rfl rfl rfl (OpR.of (R:=fun v h'=>v=w∧h'=h2) (jI rfl rfl e4) ⟨rfl,rfl⟩) ?_
   rintro w h2 ⟨rfl,rfl⟩
   refine za rfl (zv (zr rfl (zb rfl (by exact bC (aB (by omega) (by omega))) ?_)))
   refine zm rfl (zv ?_)
   exact ih (k+1) _ _ _ Q (by omega) (by rw[JY,I,aP rfl];exact s2) ⟨rfl,rfl,rfl,rfl,rfl,rfl,rfl,aa⟩ hq
  |false =>
   refine zh rfl (aA rfl rfl JJ) (AR.trans I) (zv (zj rfl (WP.skip (zr rfl (zb rfl (by exact bC (aB (by omega) (by omega))) ?_)))))
   refine zm rfl (zv ?_)
   exact ih (k+1) _ _ _ Q (by omega) (by rw[JY,I,ak (by decide)];exact s) ⟨rfl,rfl,rfl,rfl,rfl,rfl,rfl,aa⟩ hq
theorem Uq (hT:W told)(hR:tG told N B rv A pg)(eY:EI N B ε)(hN:2≤N)(J:fI n R M (pg ε))(s:Sat h (A ε::S)):
  Call ⟨Tryz.prog,told⟩ 25 [rv] h fun v h'=>∃w af,v=.bf [w,.int .i64 0]∧EI N B af∧Sm N ε af∧Sat h' (.arr 1 w (bG (mP (bt M) n))::A af::S):=by
 obtain⟨ex,sF⟩:=J.head
 obtain⟨kd,lk,mJ,I⟩:=J.marks
 have hM:=J.ml
 have qA:=J.n2
 have qX:=J.n1
 have QD:=MS (f:=bt M) (k:=n)
 refine Call.of_wp (hT.free _ rfl) Tryz.func25 rfl rfl (zK 8 rfl (zc rfl (MJ hT hR eY (by omega) sF J.rl s) ?_))
 rintro v h ⟨u,pG,rfl,oQ,jD,s⟩
 refine zk 12 rfl (zC rfl aE (rfl) (zk 11 rfl (zc rfl (xo hT (by omega) (by omega)) ?_)))
 rintro v h' ⟨rfl,rfl⟩
 refine zb rfl (by exact iM (aB (by omega) (by omega))) ?_
 refine zk 2 rfl (WP.block (WP.loop (zg rfl (zB rfl bh (by decide) ?_))))
 have I:dR (pg pG 1) kd lk mJ [M]:=by rw[hR.same jD];exact I
 refine zk 5 rfl (WP.block (zK 9 rfl (zc rfl (Ug hT hR oQ hN I hM (s.ae [1])) ?_)))
 rintro v h ⟨w2,u2,fM,rfl,jW,jg,s⟩
 refine zk 12 rfl (zC rfl aE (rfl) (zk 7 rfl (zb rfl (by exact kJ (aB (by omega) (by omega))) ?_)))
 refine zb rfl (by exact iM (aB (by omega) (by omega))) ?_
 have em:min (3000:Int) ((n:Int)-3000*0)=(n:Int):=by omega
 refine zo rfl (CC (r:=.int .i64 (n:Int)) rfl rfl (Ow.trans (by rw[em]))) ?_
 refine zk 2 rfl (WP.block ?_)
 have s:=s.m6 (k:=1)
 refine RF hT hM (by omega) n 0 _ _ _ _ (by omega) s ⟨rfl,rfl,rfl,rfl,rfl,rfl,rfl,aa⟩ (fun v' E' h' hE s' => ?_)
 have s:=s'
 refine WP.has hE (zr rfl (zb rfl (by exact bC (aB (by omega) (by omega))) ?_))
 refine zm rfl (zv (WP.loop (zg rfl (zh rfl (aA rfl rfl bh) (by decide) ?_))))
 refine zk 3 rfl (WP.exit (zK 3 rfl (zo rfl (aN rfl rfl rfl (s.dZ (n:=(mP (bt M) n).length) (j:=0) rfl (by rw[gh,eF]) (by decide) cf)) ?_)))
 obtain⟨i1,iu,gW,pz⟩:=od
 obtain⟨wv,h1,e3,s1⟩:=qw (P:=Tryz.prog) s cf iu uO gW (by omega) rfl (by decide) (by decide) (n:=0) (c:=(mP (bt M) n).length) (by omega) (by omega)
 refine ax.any rfl rfl rfl (OpR.of (R:=fun v h'=>v=wv∧h'=h1) (qT rfl rfl e3) ⟨rfl,rfl⟩) ?_
 rintro w0 h ⟨rfl,rfl⟩
 have s:Sat h (.arr 1 w0 []::_):=s1
 obtain⟨w3,h2,e4,s2⟩:=gv s cf iu uO gW (by omega) rfl (by decide) (by simp only[gh,cG];omega)
 rw[ey] at s2
 refine zm rfl (ax.any rfl rfl rfl (OpR.of (R:=fun v h'=>v=w3∧h'=h2) (jI rfl rfl e4) ⟨rfl,rfl⟩) ?_)
 rintro w3 h ⟨rfl,rfl⟩
 exact zk 3 rfl (WP.ret ⟨aa,_,rfl,_,fM,rfl,jW,jD.trans jg,(((((s2.ae [0,3]).del 5).del 4).del 3).del 2)⟩)
end
structure WS (told:cR): Prop where
 w:W told
 fmt:told 31=some (iZ Tryz.prog 31 (FQ 31))
theorem XY {f:Nat→Bool}{m:Nat}: (mP f (k+m)).length=(mP f k).length+((List.range m).filter fun i=>f (k+i)).length:=by
 unfold mP
 rw[List.range_add,List.filter_append,bV,List.filter_map,jl]
 rfl
theorem Ur {f:Nat→Bool}{m:Nat}(h:∀j,n≤j→f j=false): (mP f (n+m)).length=(mP f n).length:=by
 rw[XY]
 have:((List.range m).filter fun i=>f (n+i))=[]:=List.filter_eq_nil_iff.2 fun i _=>by rw[h _ (by omega)];decide
 rw[this];rfl
theorem RG {f g:Nat→Bool}(h:∀i,i<n→f i=g i): mP f n=mP g n:=ET fun i hi=>h i (List.mem_range.1 hi)
section
variable {told:cR} {p:Nat} {v w:V} {pg:aX→Int→List Nat}
theorem GY (hT:WS told){m:Nat}(hB:B≤800)(I:EI N B ε)(hN:4≤N)(J:N≤1000)(hz:(pgA ε 0).length=512)(hg:bW (pgA ε 0)=false)(hd:vD K m ε)(hf:K+520*N+28≤m)(s:Sat h (SA a p q r .b_ data aC ε::S)):
  Call ⟨Tryz.prog,told⟩ 31 [.ptr a 0] h fun v h'=>v=.int .i64 0∧∃af,EI N (B+2) af∧fI N (List.replicate 64 0) sX (pgA af)∧vD (K+520*N+28) m af∧Sat h' (SA a p q r .b_ data aC af::S)∧Rv N B 1 ε af :=
 Call.defer hT.fmt JM rfl (Rw hB I hN J hz hg hd hf s)
theorem HA (hT:WS told){m:Nat}(hN:4≤n)(xu:n≤1000)(hm:m≤16777216)(hf:520*n+28≤m)(h4:1≤f)(h5:f≤1024)(s:Sat h S):
  Call ⟨Tryz.prog,told⟩ 14 [.int .i64 (n:Int),.int .i64 (m:Int),.int .i64 (f:Int)] h fun v h'=>∃p a q r ε,v=.ptr a 0∧EI n 3 ε∧fI n (List.replicate 64 0) sX (pgA ε)∧vD (520*n+28) m ε∧Sat h' (SA a p q r .b_ [] 0 ε::S):=by
 have I:bW (List.replicate 512 0)=false:=by decide +kernel
 refine Call.of_wp (hT.w.free _ rfl) Tryz.func14 rfl rfl (zK 9 rfl (zc rfl (Eb (n:=n) (m:=m) (f:=f) hT.w s (by omega) (by omega) hm h4 h5) ?_))
 rintro v h ⟨p,a,q,r,rfl,s⟩
 have s:Sat h (SA a p q r .b_ [] 0 (fresh n m f)::S):=bn.2 s
 refine zk 10 rfl (zC rfl (vz sQ) (rfl) (zk 2 rfl (zc rfl (GY (K:=0) (m:=m) hT (by decide) (EI.fresh (by omega) hm h4 h5) hN xu (by rw[qI];exact fN) (by rw[qI];exact I) ⟨aU _,rfl⟩ (by omega) s) ?_)))
 rintro v h ⟨rfl,af,J,hp,hd,s,_⟩
 rw[gG] at hd
 exact zC rfl aE (rfl) (zk 9 rfl (WP.ret ⟨aa,_,rfl,p,a,q,r,af,rfl,J,hp,hd,s⟩))
theorem GZ (I:W told)(s:Sat h (SA a p q r .b_ data aC ε::S)): Call ⟨Tryz.prog,told⟩ 15 [.ptr a 0] h fun v h'=>∃g,v=.ptr g 0∧Sat h' (GA g a p q r data aC [] ε::S):=by
 have s:=bn.1 s
 have s:Sat h (ew a p q r .b_ data aC::dO r p q ε.1::b7 q p ε.2.1::aS p ε.2.2::S):=s
 refine Call.of_wp (I.free _ rfl) Tryz.func15 rfl rfl (zK 7 rfl (zc rfl (GM I s) ?_))
 rintro v h ⟨g,rfl,s⟩
 exact zk 10 rfl (zC rfl aE (rfl) (zk 8 rfl (WP.ret ⟨aa,_,rfl,g,rfl,bn.2 s⟩)))
end
def cM (M:List Nat)(N:Nat): List Nat:=(List.range N).filter fun i => !bt M i
theorem si : i∈cM M N↔i<N∧bt M i=false:=by
 grind[cM]
theorem AS (M:List Nat)(N:Nat): (cM M N).Pairwise (· < ·):=EJ _ EE
theorem Eo (M:List Nat)(N:Nat): (cM M N).Nodup:=(AS M N).imp fun h=>qg h
theorem G0 (hs:L.Pairwise (· < ·))(I:L[k]?=some z): (∀j,j∈L.take k↔j∈L∧j<z)∧L.take (k+1)=L.take k++[z]:=by
 have e:L=L.take k++z::L.drop (k+1):=by
  grind[List.getElem_cons_drop,List.take_append_drop]
 refine⟨fun j => ?_,by grind⟩<;>grind[List.pairwise_cons]
theorem JZ : (mP (bt M) N).length+(cM M N).length=N:=by
 have key:∀(l:List Nat),(l.filter (bt M)).length+(l.filter fun i => !bt M i).length=l.length:=by
  intro l
  induction l<;>grind
 have:=key (List.range N)
 rw[List.length_range] at this
 exact this
def chunk (b:List Nat)(i:Nat): List Nat:=(b.take (480*(i+1))).drop (480*i)
def chunks (b:List Nat)(m:Nat): List (List Nat):=(List.range m).map (chunk b)
theorem G1 : (chunk b i).length≤480:=by
 grind[chunk]
theorem OF {m:Nat}: (chunks b m).length=m:=by grind[chunks]
theorem OG {m:Nat}(h:i<m): (chunks b m)[i]?=some (chunk b i):=by
 grind[chunks]
theorem RH : ∀(a b:List (List Nat)),flatL (a++b)=flatL a++flatL b:=by
 intro a
 induction a<;>grind[flatL]
theorem Li : ∀m,flatL (chunks b m)=b.take (480*m):=by
 intro m
 induction m<;>grind[chunks,flatL,chunk,List.range_succ,RH,List.take_append_drop]
theorem yF : n≤480*iC n∧1≤iC n∧iC n≤n+1:=by
 grind[iC]
theorem Ep : flatL (chunks b (iC b.length))=b:=by
 rw[Li,gj yF.1]
theorem mO.mk : ∀ {ps:List Nat} {cs:List (List Nat)},ps.length=cs.length→(∀(i p:Nat) (c:List Nat),ps[i]?=some p→cs[i]?=some c→dR (P p) 203 (ps.getD (i+1) 0) (ps.length-i) [c])→mO P ps cs:=by
 intro ps
 induction ps with
 |nil=>intro cs I _;cases cs with
  |nil=>trivial
  |cons c cs=>grind
 |cons p ps J=>intro cs I h;cases cs with
  |nil=>grind
  |cons c cs =>
   refine⟨?_,J (by grind) fun i q d hq hd => ?_⟩
   ·have:=h 0 p c rfl rfl
    have e:(p::ps).getD (0+1) 0=ps.headD 0:=by cases ps<;>rfl
    rw[e] at this
    exact this
   ·have:=h (i+1) q d (by grind) (by grind)
    simp_all
section
variable {told:cR} {p m:Nat} {sm:aX→aX→Prop} {v:V} {cs:List (List Nat)}
structure Cf (N:Nat)(R M:List Nat)(P:Int→List Nat)(ps:List Nat)(M':List Nat)(P':Int→List Nat): Prop where
 Cg:fI N R M' P'
 bits:∀j,bt M' j=(bt M j||decide (j∈ps))
 same:∀j:Nat,j≠1→j∉ps→P' j=P j
theorem fI.V5 (h:fI N R M P)(J:z∈cM M N): 2≤z∧z<N:=by
 obtain⟨h1,I⟩:=si.1 J
 refine⟨?_,h1⟩
 rcases qh z 2 with q|q
 ·rw[h.own z q] at I;cases I
 ·exact q
theorem Cf.lo (h:Cf N R M P ((cM M N).take k) M' P')(I:(cM M N)[k]?=some z): z<N∧bt M' z=false∧∀j,j<z→bt M' j=true:=by
 have hm:=si.1 (bD I)
 obtain⟨t1,t2⟩:=G0 (AS M N) I
 refine⟨hm.1,?_,fun j J => ?_⟩
 ·rw[h.bits,hm.2,wD]
  grind
 ·rw[h.bits]
  grind[si]
noncomputable def cwL : Code:=cN [1,1,1,0,1,0,0] ((Tryz.f17.body).getD .skip)
theorem J0 (hT:W told)(hM:Mo told N lv dd sm)(hN:N≤2999)(hm:m≤3000): ∀(j k:Nat) (pv:V) (M':List Nat) (ε:aX) (now:List (Int×List Nat)) (h:H) (E:List (Nat×V)) (Q:Ex→List (Nat×V)→H→Prop),k+j=m→k≤(cM M N).length→lv ε→NW N now→Cf N R M P0 ((cM M N).take k) M' (pgG now ε) →
  Sat h (.arr 1 pv (bG ((cM M N).take k))::GA g a p q r data aC now ε::S)→Has E [(0,.ptr g 0),(1,bv),(6,pv),(24,.int .i64 (m:Int)),(25,.int .i64 (k:Int))] →
  (m≤(cM M N).length→∀xx M2 af bL E' h',lv af→sm ε af→NW N bL→Cf N R M P0 ((cM M N).take m) M2 (pgG bL af)→Has E' [(0,.ptr g 0),(1,bv),(6,xx)]→Sat h' (.arr 1 xx (bG ((cM M N).take m))::GA g a p q r data aC bL af::S)→Q (.exit 0) E' h') →
  ((cM M N).length<m→∀af bL E' h',lv af→sm ε af→NW N bL→look E' 4=some (.int .i64 0)→look E' 5=some (.int .i64 7)→Sat h' (GA g a p q r data aC bL af::S)→Q .ret E' h') → 
  (∀E' h',look E' 4=some (.int .i64 0)→look E' 5=some (.int .i64 9)→y6 N g a p q r data aC dd S h'→Q .ret E' h')→WP ⟨Tryz.prog,told⟩ 100 (.loop cwL) E h Q:=by
 intro j
 induction j with
 |zero =>
  intro k pv M' ε now h E Q hk V6 eY hw hg s hE AA jM hd
  obtain rfl:k=m:=by omega
  refine WP.loop (WP.has hE (zg rfl (zC rfl bh (by simp) ?_)))
  exact zk 3 rfl (WP.exit (AA V6 pv M' ε now _ _ eY (hM.rf _) hw hg ⟨rfl,rfl,rfl,aa⟩ s))
 |succ j ih =>
  intro k pv M' ε now h E Q hk V6 eY hw hg s hE AA jM hd
  have Ro:=hg.Cg.ml
  refine WP.loop (WP.has hE (zg rfl (zB rfl bh (by grind) ?_)))
  refine zk 5 rfl (WP.block (zK 3 rfl ?_))
  by_cases abt:k=(cM M N).length
  ·skip
   have qO:∀i,i<N→bt M' i=true:=fun i hi=>by
    rw[hg.bits]
    grind[si]
   refine zc rfl (Uj hT hM eY hw hg.Cg qO (s.ae [1])) ?_
   rintro v h (⟨rfl,af,bL,I,s,nW⟩|⟨af,rfl,J,hs,s⟩)
   ·skip
    refine zk 10 rfl (zB rfl aE (by decide) ?_)
    exact zk 8 rfl (WP.ret (hd _ _ rfl rfl ⟨af,bL,I,s.del 1,nW⟩))
   refine zk 10 rfl (zB rfl aE (by decide) ?_)
   exact zk 8 rfl (WP.ret (jM (by omega) af now _ _ J hs hw rfl rfl (s.del 1)))
  ·have hz:(cM M N)[k]?=some ((cM M N)[k]'(by omega)):=bx _
   generalize ((cM M N)[k]'(by omega))=z at hz
   obtain⟨l1,l2,l3⟩:=hg.lo hz
   obtain⟨t1,t2⟩:=G0 (AS M N) hz
   refine zc rfl (XQ (lo:=z) hT hM eY hw hg.Cg l1 l2 l3 (s.ae [1])) ?_
   rintro v h (⟨rfl,af,bL,I,s,nW⟩|⟨af,bL,rfl,J,hs,I,_,MQ,BX,hpz,_,s⟩)
   ·skip
    refine zk 10 rfl (zB rfl aE (by decide) ?_)
    exact zk 8 rfl (WP.ret (hd _ _ rfl rfl ⟨af,bL,I,s.del 1,nW⟩))
   have hg':Cf N R M P0 ((cM M N).take (k+1)) (Ej M' z) (pgG bL af):=by
    refine⟨MQ,fun i => ?_,fun i iu gW => ?_⟩
    ·rw[VW (by omega),hg.bits,t2]
     grind
    ·rw[t2] at gW
     rw[BX i (by omega) (fun e=>gW (List.mem_append.2 (.inr (List.mem_singleton.2 (by omega))))),hg.same i iu fun q=>gW (List.mem_append.2 (.inl q))]
   have s:=s.ae [1,0]
   dsimp only[aI,bringA,getA] at s
   refine zk 5 rfl (zv (zw (zg rfl (zm rfl (zh rfl (aA rfl rfl aE) (rfl) (zv (zj rfl (WP.skip (zr rfl (zk 2 rfl ?_))))))))))
   obtain⟨iv,h1,w,h2,e3,e4,s2⟩:=CS (k:=z) s (by grind)
   rw[←t2] at s2
   refine ax.any rfl rfl rfl (OpR.of (R:=fun v h'=>v=iv∧h'=h1) (ke rfl e3) ⟨rfl,rfl⟩) ?_
   rintro iv h1 ⟨rfl,rfl⟩
   refine ax.any rfl rfl rfl (OpR.of (R:=fun v h'=>v=w∧h'=h2) (jI rfl rfl e4) ⟨rfl,rfl⟩) ?_
   rintro w h2 ⟨rfl,rfl⟩
   refine za rfl (zv (zr rfl (zb rfl (by exact bC (aB (by omega) (by omega))) ?_)))
   refine zm rfl (zv ?_)
   exact ih (k+1) _ (Ej M' z) af bL _ _ Q (by omega) (by omega) J I hg' s2 ⟨rfl,rfl,rfl,rfl,rfl,aa⟩
    (fun xj pv2 M2 fM ov E2 h2 g1 g2 g3 g4 g5 g6=>AA xj pv2 M2 fM ov E2 h2 g1 (hM.tr hs g2) g3 g4 g5 g6) (fun xj fM ov E2 h2 g1 g2 g3 g4 g5 g6=>jM xj fM ov E2 h2 g1 (hM.tr hs g2) g3 g4 g5 g6) hd
theorem RJ : (b.take (min b.length (480*(i+1)))).drop (min b.length (480*i))=chunk b i:=by
 grind[chunk]
noncomputable def cxR : Code:=cN [1,1,1,1,0,1,0,0,1,1,0,0,1,1,1] ((Tryz.f17.body).getD .skip)
theorem XZ (hT:W told)(hM:Mo told N lv dd sm)(hX:cL X (cQ bv b))(m7:b.length≤8192)(vi:ps.length≤100)(hk:k<ps.length)(hz:z<N)(rE:nx<4294967296)(eY:lv ε)(hw:NW N now)
 (s:Sat h (.arr 1 pv (bG ps)::GA g a p q r data aC now ε::X::S))(hE:Has E [(0,.ptr g 0),(1,bv),(6,pv),(9,.int .i64 (k:Int)),(10,.int .i64 (z:Int)),(11,.int .i64 (nx:Int)),(40,pv),(41,.int .i64 (ps.length:Int)),(42,.int .i64 (k:Int))])
 (hq:∀af b' E' h',lv af→sm ε af→NW N (cD (z:Int) b' now)→dR b' 203 nx (ps.length-k) [chunk b k]→Has E' [(0,.ptr g 0),(1,bv),(6,pv),(40,pv),(41,.int .i64 (ps.length:Int)),(42,.int .i64 (k:Int))]→Sat h' (.arr 1 pv (bG ps)::GA g a p q r data aC (cD (z:Int) b' now) af::X::S)→Q .normal E' h')(hd:∀E' h',look E' 4=some (.int .i64 0)→look E' 5=some (.int .i64 9)→y6 N g a p q r data aC dd (.arr 1 pv (bG ps)::X::S) h'→Q .ret E' h'): WP ⟨Tryz.prog,told⟩ 100 cxR E h Q:=by
 have hlen:(bG ps).length=ps.length*1:=by rw[gh,eF]
 have je:=G1 (b:=b) (i:=k)
 refine WP.has hE (zg rfl (zc rfl (JB (kd:=203) hT s (by decide)) ?_))
 rintro v h ⟨u,b0,rfl,sD,s⟩
 refine zk 11 rfl (zo rfl (aN rfl rfl rfl (s.dZ (n:=ps.length) (j:=1) rfl hlen (by decide) cf)) ?_)
 refine zm rfl (zo rfl (aA (r:=.int .i64 ((ps.length-k:Nat):Int)) rfl rfl ((iM (aB (by omega) (by omega))).trans (by grind))) ?_)
 refine zc rfl (MF (lk:=nx) (ex:=ps.length-k) hT s (bk _ _) sD rE (by omega)) ?_
 rintro v h ⟨u2,b2,rfl,F8,s⟩
 have I:min ((b.length:Nat):Int) (480*(k:Int))=((min b.length (480*k):Nat):Int):=by omega
 have J:min ((b.length:Nat):Int) (480*((k:Int)+1))=((min b.length (480*(k+1)):Nat):Int):=by omega
 have hle:min b.length (480*k)≤min b.length (480*(k+1)):=by omega
 refine zk 10 rfl (zo rfl (aN rfl rfl rfl (aW aK (s.aD (k:=4) rfl hX))) (zm rfl (zb rfl (by exact kJ (aB (by omega) (by omega))) ?_)))
 refine zo rfl (CC (r:=.int .i64 ((min b.length (480*k):Nat):Int)) rfl rfl (Ow.trans (by rw[I]))) ?_
 refine zm rfl (zo rfl (aN rfl rfl rfl (aW aK (s.aD (k:=4) rfl hX))) (zm rfl (zb rfl (by exact bC (aB (by omega) (by omega))) ?_)))
 refine zb rfl (by exact kJ (aB (by omega) (by omega))) ?_
 refine zo rfl (CC (r:=.int .i64 ((min b.length (480*(k+1)):Nat):Int)) rfl rfl (Ow.trans (by rw[J]))) ?_
 refine zo rfl (cH (p:=some (.int .i64 ((min b.length (480*k):Nat):Int))) (q:=some (.int .i64 ((min b.length (480*(k+1)):Nat):Int))) (m:=none) (p':=some (min b.length (480*k))) (q':=some (min b.length (480*(k+1)))) (m':=none) rfl rfl rfl rfl (by rfl) (by rfl) rfl (gP (s.aD (k:=4) rfl hX) hle (by omega)).1) ?_
 have hY:=lG hX (a:=min b.length (480*k)) (b:=min b.length (480*(k+1))) hle (by omega)
 rw[RJ] at hY
 refine zc rfl (MG (cs:=[]) hT (s.ae [0,3]) (bk _ _) hY F8 (by grind[tot])) ?_
 rintro v h ⟨u3,b3,rfl,Vi,s⟩
 rw[ey] at Vi
 have s:=s.ae [5,0,3,1]
 dsimp only[aI,bringA,getA] at s
 refine zk 10 rfl (zc rfl (hM.gw (i:=z) eY hw hz s (bk _ _) Vi) ?_)
 rintro v h (⟨af,rfl,s,nW⟩|⟨af,rfl,rq,hs,pn,s⟩)
 ·skip
  refine za rfl (zv (zg rfl (zm rfl (zt rfl (aA rfl rfl aE) (by decide) ?_))))
  exact zk 8 rfl (WP.ret (hd _ _ rfl rfl ⟨af,now,hw,(((s.ae [0,1,1]).del 5).del 4).del 3,nW⟩))
 refine za rfl (zv (zg rfl (zm rfl (zh rfl (aA rfl rfl aE) (rfl) (zv (zj rfl (WP.skip ?_)))))))
 exact hq af b3 _ _ rq hs pn Vi ⟨rfl,rfl,rfl,rfl,rfl,rfl,aa⟩ ((((s.ae [2,0,1]).del 5).del 4).del 3)
def V7 (P:Int→List Nat)(ps:List Nat)(b:List Nat)(k:Nat): Prop:=∀(i z:Nat),i<k→ps[i]?=some z→dR (P z) 203 (ps.getD (i+1) 0) (ps.length-i) [chunk b i]
noncomputable def cxL : Code:=cN [1,1,1,1,0,1,0,0] ((Tryz.f17.body).getD .skip)
theorem X0 (hT:W told)(hM:Mo told N lv dd sm)(hX:cL X (cQ bv b))(m7:b.length≤8192)(hN:N≤2999)(vi:ps.length≤100)(iK:ps.Nodup)(mN:∀z∈ps,2≤z∧z<N): ∀(j k:Nat) (ε:aX) (now:List (Int×List Nat)) (h:H) (E:List (Nat×V)) (Q:Ex→List (Nat×V)→H→Prop),k+j=ps.length→lv ε→NW N now→fI N R M (pgG now ε)→V7 (pgG now ε) ps b k→(∀i:Nat,i∉ps→pgG now ε i=P0 i) →
  Sat h (.arr 1 pv (bG ps)::GA g a p q r data aC now ε::X::S)→Has E [(0,.ptr g 0),(1,bv),(6,pv),(40,pv),(41,.int .i64 (ps.length:Int)),(42,.int .i64 (k:Int))] →
  (∀af bL E' h',lv af→sm ε af→NW N bL→fI N R M (pgG bL af)→V7 (pgG bL af) ps b ps.length→(∀i:Nat,i∉ps→pgG bL af i=P0 i)→Has E' [(6,pv)]→Sat h' (.arr 1 pv (bG ps)::GA g a p q r data aC bL af::X::S)→Q (.exit 2) E' h')→(∀E' h',look E' 4=some (.int .i64 0)→look E' 5=some (.int .i64 9)→y6 N g a p q r data aC dd (.arr 1 pv (bG ps)::X::S) h'→Q .ret E' h')→WP ⟨Tryz.prog,told⟩ 100 (.loop cxL) E h Q:=by
 intro j
 induction j with
 |zero =>
  intro k ε now h E Q hk eY hw I Eh oP s hE hq hd
  refine WP.loop (WP.has hE (zg rfl (zC rfl bh (by grind) ?_)))
  refine zk 3 rfl (WP.exit ?_)
  obtain rfl:k=ps.length:=by omega
  exact hq ε now _ _ eY (hM.rf _) hw I Eh oP ⟨rfl,aa⟩ s
 |succ j ih =>
  intro k ε now h E Q hk eY hw I Eh oP s hE hq hd
  have hz:ps[k]?=some (ps[k]'(by omega)):=bx _
  generalize (ps[k]'(by omega))=z at hz
  have Us:=mN z (bD hz)
  have J1:(bG ps)[k]?=some (.int .i64 (z:Int)):=by grind[bG]
  have hlen:(bG ps).length=ps.length*1:=by rw[gh,eF]
  obtain⟨id,off,e1,e2⟩:=gJ (P:=Tryz.prog) s (k:=0) (i:=k) rfl J1 cf jF
  have hxv:=s.aD (k:=2) rfl hX
  have je:=G1 (b:=b) (i:=k)
  -- behind the page's links
  have fin:∀ {af:aX} {b':List Nat},sm ε af→dR b' 203 (ps.getD (k+1) 0) (ps.length-k) [chunk b k]→fI N R M (pgG (cD (z:Int) b' now) af)∧V7 (pgG (cD (z:Int) b' now) af) ps b (k+1)∧(∀i:Nat,i∉ps→pgG (cD (z:Int) b' now) af i=P0 i):=fun {af b'} hs nU=>by
   refine⟨I.put (by rw[jt,ak (by omega),hM.pgG hs]) (by rw[jt,ak (by omega),hM.pgG hs];exact I.marks) I.ml I.own I.hi,fun i w hi kG => ?_,fun i hi => ?_⟩
   ·by_cases hik:i=k
    ·grind[jt]
    ·have mH:(z:Int)≠(w:Int):=fun e=>by
      grind[List.getElem?_inj]
     rw[jt,ak mH,hM.pgG hs];exact Eh i w (by omega) kG
   ·rw[jt,ak (fun e=>hi (by grind)),hM.pgG hs];exact oP i hi
  have next:∀(nx:Nat) (h:H) (E:List (Nat×V)) {Q':Ex→List (Nat×V)→H→Prop},nx=ps.getD (k+1) 0→nx<4294967296→Sat h (.arr 1 pv (bG ps)::GA g a p q r data aC now ε::X::S)→Has E [(0,.ptr g 0),(1,bv),(6,pv),(9,.int .i64 (k:Int)),(10,.int .i64 (z:Int)),(11,.int .i64 (nx:Int)),(40,pv),(41,.int .i64 (ps.length:Int)),(42,.int .i64 (k:Int))] →
    (∀af bL E' h',lv af→sm ε af→NW N bL→fI N R M (pgG bL af)→V7 (pgG bL af) ps b (k+1)→(∀i:Nat,i∉ps→pgG bL af i=P0 i)→Has E' [(0,.ptr g 0),(1,bv),(6,pv),(40,pv),(41,.int .i64 (ps.length:Int)),(42,.int .i64 (k:Int))]→Sat h' (.arr 1 pv (bG ps)::GA g a p q r data aC bL af::X::S)→Q' .normal E' h')→(∀E' h',look E' 4=some (.int .i64 0)→look E' 5=some (.int .i64 9)→y6 N g a p q r data aC dd (.arr 1 pv (bG ps)::X::S) h'→Q' .ret E' h')→WP ⟨Tryz.prog,told⟩ 100 cxR E h Q':=fun nx h E Q' rE hnl s hE zJ L1 =>
   XZ hT hM hX m7 vi (by omega) Us.2 hnl eY hw s hE (fun af b' E' h' g1 g2 g3 g4 g5 g6=>by
    grind) L1
  refine WP.loop (WP.has hE (zg rfl (zB rfl bh (by grind) ?_)))
  refine zk 5 rfl (WP.block (zK 3 rfl (zo rfl (cK (r:=.ptr id off) rfl rfl e1) (zl rfl (e2 _ dN) (zk 11 rfl (zb rfl (by exact bC (aB (by omega) (by omega))) ?_))))))
  refine zm rfl (zo rfl (aN rfl rfl rfl (s.dZ (n:=ps.length) (j:=0) rfl hlen (by decide) cf)) ?_)
  by_cases hl:k+1<ps.length
  ·skip
   have kG:ps[k+1]?=some (ps[k+1]'hl):=bx _
   have lR:ps[k+1]'hl=ps.getD (k+1) 0:=by grind
   generalize (ps[k+1]'hl)=w at kG lR
   have aev:=mN w (bD kG)
   have J2:(bG ps)[k+1]?=some (.int .i64 (w:Int)):=by grind[bG]
   obtain⟨kF,Ut,e3,e4⟩:=gJ (P:=Tryz.prog) s (k:=0) (i:=k+1) rfl J2 cf jF
   refine zB rfl bh (by grind) ?_
   refine zk 5 rfl (zb rfl (by exact bC (aB (by omega) (by omega))) ?_)
   refine zo rfl (cK (r:=.ptr kF Ut) rfl rfl e3) (zl rfl (e4 _ dN) (zk 2 rfl ?_))
   refine next w _ _ lR (by omega) s ⟨rfl,rfl,rfl,rfl,rfl,rfl,rfl,rfl,rfl,aa⟩ (fun af bL E' h' a1 a2 a3 a4 a5 a6 a7 s' => ?_) hd
   have s:=s'
   refine WP.has a7 (zr rfl (zb rfl (by exact bC (aB (by omega) (by omega))) ?_))
   refine zm rfl (zv ?_)
   exact ih (k+1) af bL _ _ Q (by omega) a1 a3 a4 a5 a6 s ⟨rfl,rfl,rfl,rfl,rfl,rfl,aa⟩ (fun fM J E2 h2 g1 g2 g3 g4 g5 g6 g7 g8=>hq fM J E2 h2 g1 (hM.tr a2 g2) g3 g4 g5 g6 g7 g8) hd
  ·have lR:0=ps.getD (k+1) 0:=by grind
   refine zC rfl bh (by grind) ?_
   refine zk 3 rfl ?_
   refine next 0 _ _ lR (by decide) s ⟨rfl,rfl,rfl,rfl,rfl,rfl,rfl,rfl,rfl,aa⟩ (fun af bL E' h' a1 a2 a3 a4 a5 a6 a7 s' => ?_) hd
   have s:=s'
   refine WP.has a7 (zr rfl (zb rfl (by exact bC (aB (by omega) (by omega))) ?_))
   refine zm rfl (zv ?_)
   exact ih (k+1) af bL _ _ Q (by omega) a1 a3 a4 a5 a6 s ⟨rfl,rfl,rfl,rfl,rfl,rfl,aa⟩ (fun fM J E2 h2 g1 g2 g3 g4 g5 g6 g7 g8=>hq fM J E2 h2 g1 (hM.tr a2 g2) g3 g4 g5 g6 g7 g8) hd
end
section
variable {told:cR} {p m:Nat} {sm:aX→aX→Prop} {v:V} {cs:List (List Nat)}
theorem J3 (hT:W told)(hM:Mo told N lv dd sm)(hX:cL X (cQ bv b))(m7:b.length≤8192)(eY:lv ε)(hw:NW N now)(hp:fI N R M (pgG now ε))(hm:iC b.length=m)(V8:m≤(cM M N).length)(s:Sat h (GA g a p q r data aC now ε::X::S)):
  Call ⟨Tryz.prog,told⟩ 17 [.ptr g 0,bv] h fun v h'=>(v=.bf [.int .i64 0,.int .i64 9]∧y6 N g a p q r data aC dd (X::S) h')∨∃af bL M',v=.bf [.int .i64 (((cM M N).take m).headD 0:Nat),.int .i64 0]∧lv af∧sm ε af∧NW N bL∧Cf N R M (pgG now ε) ((cM M N).take m) M' (pgG bL af)∧mO (pgG bL af) ((cM M N).take m) (chunks b m) ∧
   Sat h' (GA g a p q r data aC bL af::X::S):=by
 have hn:=yF (n:=b.length)
 have acY:m≤20:=by
  rw[←hm]
  unfold iC
  split<;>omega
 have Aq:1≤m:=by omega
 have qA:=hp.n2
 have I:((cM M N).take m).length=m:=by rw[fO];omega
 obtain⟨i1,iu,gW,pz⟩:=od
 refine Call.of_wp (hT.free _ rfl) Tryz.func17 rfl rfl (zK 9 rfl (zo rfl (aN rfl rfl rfl (aW aK (s.aD (k:=1) rfl hX))) (zC rfl gA (by simp;omega) ?_)))
 refine zk 6 rfl (zo rfl (aN rfl rfl rfl (aW aK (s.aD (k:=1) rfl hX))) (zc rfl (xy (n:=(b.length:Int)) hT (by omega)) ?_))
 rintro v h' ⟨rfl,rfl⟩
 rw[dY,hm]
 obtain⟨wv,h1,e3,s1⟩:=qw (P:=Tryz.prog) s cf iu uO gW (by omega) rfl (by decide) (by decide) (n:=0) (c:=m) (by omega) (by omega)
 refine ax.any rfl rfl rfl (OpR.of (R:=fun v h'=>v=wv∧h'=h1) (qT rfl rfl e3) ⟨rfl,rfl⟩) ?_
 rintro w0 h ⟨rfl,rfl⟩
 have s:Sat h (.arr 1 w0 []::GA g a p q r data aC now ε::X::S):=s1
 refine zk 6 rfl (zo rfl (aN rfl rfl rfl (aW aK (s.aD (k:=2) rfl hX))) (zc rfl (xy (n:=(b.length:Int)) hT (by omega)) ?_))
 rintro v h' ⟨rfl,rfl⟩
 rw[dY,hm]
 refine zk 2 rfl (WP.block ?_)
 refine J0 (M:=M) hT hM qA (by omega) m 0 w0 M ε now _ _ _ (by omega) (fe _) eY hw ⟨hp,fun j=>by simp,fun j _ _=>rfl⟩ s ⟨rfl,rfl,rfl,rfl,rfl,aa⟩ (fun _ pv M2 pG J E' h' oQ jD BV V9 hE s' => ?_) (fun hq=>absurd hq (by omega)) (fun E' h' e1 e2 e3=>⟨aa,_,pX e1 e2,.inl ⟨rfl,e3⟩⟩)
 have s:=s'
 have hlen:(bG ((cM M N).take m)).length=m*1:=by rw[gh,I,eF]
 refine WP.has hE (zK 4 rfl (zo rfl (aN rfl rfl rfl (s.dZ (n:=m) (j:=0) rfl hlen (by decide) cf)) ?_))
 refine zk 2 rfl (WP.block ?_)
 have ek:((m:Nat):Int)=((((cM M N).take m).length:Nat):Int):=by rw[I]
 rw[ek]
 refine X0 (P0:=pgG J pG) hT hM hX m7 qA (by omega) (List.Nodup.sublist (List.take_sublist _ _) (Eo M N)) (fun z hz=>hp.V5 (ko hz)) m 0 pG J _ _ _ (by omega) oQ BV V9.Cg (fun i z hi=>absurd hi (by omega)) (fun i _=>rfl) s ⟨rfl,rfl,rfl,rfl,rfl,rfl,aa⟩ (fun fM ov E' h' jW jg kG Mw Eh oP hE s' => ?_) (fun E' h' e1 e2 ⟨af,bL,q1,q2,q3⟩=>⟨aa,_,pX e1 e2,.inl ⟨rfl,af,bL,q1,q2.del 1,q3⟩⟩)
 have s:=s'
 have hz:((cM M N).take m)[0]?=some (((cM M N).take m).headD 0):=by
  cases hq:(cM M N).take m with
  |nil=>rw[hq] at I;simp at I;omega
  |cons z l=>rfl
 have J1:(bG ((cM M N).take m))[0]?=some (.int .i64 ((((cM M N).take m).headD 0:Nat):Int)):=by rw[bG,qf,hz];rfl
 obtain⟨id,off,e1,e2⟩:=gJ (P:=Tryz.prog) s (k:=0) (i:=0) rfl J1 cf jF
 refine WP.has hE (zK 3 rfl (zo rfl (cK (r:=.ptr id off) rfl rfl e1) (zl rfl (e2 _ dN) (zk 3 rfl (WP.ret ⟨aa,_,rfl,?_⟩)))))
 refine .inr ⟨fM,ov,M2,rfl,jW,hM.tr jD jg,kG,⟨Mw,V9.bits,fun j h1 h2=>by rw[oP j h2];exact V9.same j h1 h2⟩,mO.mk (by rw[I,OF]) (fun i z c hz hc => ?_),s.drop⟩
 have hi:i<m:=by have:=(List.getElem?_eq_some_iff.1 hz).1;omega
 rw[OG hi] at hc
 obtain rfl:=cA hc
 exact Eh i z (by omega) hz
theorem RK (I:W told)(hM:Mo told N lv dd sm)(J:cL X (cQ bv b))(m7:b.length≤8192)(eY:lv ε)(hw:NW N now)(hp:fI N R M (pgG now ε))(hm:iC b.length=m)(V8:(cM M N).length<m)(s:Sat h (GA g a p q r data aC now ε::X::S)):
  Call ⟨Tryz.prog,told⟩ 17 [.ptr g 0,bv] h fun v h'=>(v=.bf [.int .i64 0,.int .i64 9]∧y6 N g a p q r data aC dd (X::S) h')∨∃af bL,v=.bf [.int .i64 0,.int .i64 7]∧lv af∧sm ε af∧NW N bL∧Sat h' (GA g a p q r data aC bL af::X::S):=by
 have hn:=yF (n:=b.length)
 have acY:m≤20:=by
  rw[←hm]
  unfold iC
  split<;>omega
 have qA:=hp.n2
 obtain⟨i1,iu,gW,pz⟩:=od
 refine Call.of_wp (I.free _ rfl) Tryz.func17 rfl rfl (zK 9 rfl (zo rfl (aN rfl rfl rfl (aW aK (s.aD (k:=1) rfl J))) (zC rfl gA (by simp;omega) ?_)))
 refine zk 6 rfl (zo rfl (aN rfl rfl rfl (aW aK (s.aD (k:=1) rfl J))) (zc rfl (xy (n:=(b.length:Int)) I (by omega)) ?_))
 rintro v h' ⟨rfl,rfl⟩
 rw[dY,hm]
 obtain⟨wv,h1,e3,s1⟩:=qw (P:=Tryz.prog) s cf iu uO gW (by omega) rfl (by decide) (by decide) (n:=0) (c:=m) (by omega) (by omega)
 refine ax.any rfl rfl rfl (OpR.of (R:=fun v h'=>v=wv∧h'=h1) (qT rfl rfl e3) ⟨rfl,rfl⟩) ?_
 rintro w0 h ⟨rfl,rfl⟩
 have s:Sat h (.arr 1 w0 []::GA g a p q r data aC now ε::X::S):=s1
 refine zk 6 rfl (zo rfl (aN rfl rfl rfl (aW aK (s.aD (k:=2) rfl J))) (zc rfl (xy (n:=(b.length:Int)) I (by omega)) ?_))
 rintro v h' ⟨rfl,rfl⟩
 rw[dY,hm]
 exact zk 2 rfl (WP.block (J0 (M:=M) I hM qA (by omega) m 0 w0 M ε now _ _ _ (by omega) (fe _) eY hw ⟨hp,fun j=>by simp,fun j _ _=>rfl⟩ s ⟨rfl,rfl,rfl,rfl,rfl,aa⟩ (fun hq=>absurd hq (by omega)) (fun _ af bL E' h' g1 g2 g3 g4 g5 s'=>⟨aa,_,pX g4 g5,.inr ⟨af,bL,rfl,g1,g2,g3,s'⟩⟩) (fun E' h' e1 e2 e3=>⟨aa,_,pX e1 e2,.inl ⟨rfl,e3⟩⟩)))
theorem RL (hT:W told)(hB:B≤2000)(hX:cL X (cQ bv b))(I:b.length≤8192)(J:EI N B ε)(hw:NW N now)(hp:fI N R M (pgG now ε))(hm:iC b.length=m)(V8:m≤(cM M N).length)(s:Sat h (GA g a p q r data aC now ε::X::S)):
  Call ⟨Tryz.prog,told⟩ 17 [.ptr g 0,bv] h fun v h'=>∃af bL M',v=.bf [.int .i64 (((cM M N).take m).headD 0:Nat),.int .i64 0]∧EI N B af∧Sm N ε af∧NW N bL∧Cf N R M (pgG now ε) ((cM M N).take m) M' (pgG bL af)∧mO (pgG bL af) ((cM M N).take m) (chunks b m) ∧
   Sat h' (GA g a p q r data aC bL af::X::S) :=
 (J3 hT (Mo.live hT hB) hX I J hw hp hm V8 s).mono fun _ _ k=>k.resolve_left fun⟨_,_,_,_,_,q⟩=>q
end
theorem WC.ws {told:cR}(I:WC told): WS told:=⟨I.w,I.fmt⟩
theorem RM (I:2≤n): (cM sX n).length=n-2:=by
 have J:=JZ (M:=sX) (N:=n)
 have h2:(mP (bt sX) n).length=2:=by
  rw[RG (g:=fun j=>decide (j<2)) (fun j _=>JQ),show n=2+(n-2) by omega,Ur (fun j hj=>decide_eq_false (by omega))]
  rfl
 omega
theorem headD_cons (h:1≤L.length): ∃p ps,L=p::ps∧L.headD 0=p:=by
 cases L with
 |nil=>simp at h
 |cons p ps=>exact⟨p,ps,rfl,rfl⟩
def pM (f n:Nat): List Nat:=(List.range n).map fun i=>(f+i*7)%256
theorem vE : (pM f n).length=n:=by unfold pM;rw[jl,List.length_range]
theorem RN {m:Nat}: (pM f i++List.replicate (m+1) 0).set i ((f+i*7)%256)=pM f (i+1)++List.replicate m 0:=by
 have e:pM f (i+1)=pM f i++[(f+i*7)%256]:=by unfold pM;rw[List.range_succ,List.map_append];rfl
 rw[EG _ _ (by rw[vE];exact aU _),vE,wE,e,cP]
 rfl
theorem RO : convV Tryz.prog h 3 5 (.int .i64 (n:Int))=some (.int .u8 ((n%256:Nat):Int),h):=by
 simp only[convV,bT,Tryz.underlying5,wrap_u8]
theorem aaj {P:Program}{x y:Operand}{m:Nat}: binV P h .add t x y (.int .u8 (f:Int)) (.int .u8 ((m%256:Nat):Int))=some (.int .u8 (((f+m)%256:Nat):Int)):=by
 simp only[binV,dx,aj,intV]
 rw[show(f:Int)+((m%256:Nat):Int)=((f+m%256:Nat):Int) by omega,wrap_u8,show(f+m%256)%256=(f+m)%256 by omega]
theorem aak {P:Program}{ts:Array TypeId}{k:IntKind}{a b:Int}: builtinV P h .max ts [.int k a,.int k b]=some (.int k (max a b),h):=by
 simp only[builtinV,foldV,maxV,dx,aj,lZ]
 by_cases I:a<b
 ·simp only[I,decide_true,aj]
  rw[show max a b=b by omega]
 ·simp only[I,Be,aY]
  rw[show max a b=a by omega]
theorem aal {x y:Nat}: buildSliceV Tryz.prog h 28 2 [(0,.int .u8 (x:Int)),(1,.int .u8 (y:Int))]=some (.sl h.next 0 2 (.exact 2),newRow h (ofBytes [x,y])):=by
 simp only[buildSliceV,aK,eC,n4,V.cells]
 rfl
section
variable {told:cR} {p m:Nat} {v:V} {cs:List (List Nat)}
theorem Uu (I:W told){n:Int}(J:n<9223372036854775808): Call ⟨Tryz.prog,told⟩ 13 [.int .i64 n] h fun v h'=>v=.int .i64 (iC n.toNat:Nat)∧h'=h:=by
 refine Call.of_wp (I.free _ rfl) Tryz.func13 rfl rfl (zK 8 rfl ?_)
 by_cases h0:n≤0
 ·skip
  refine zB rfl uN (by simp;omega) ?_
  exact zk 6 rfl (WP.ret ⟨aa,_,rfl,by rw[show n.toNat=0 by omega];rfl,rfl⟩)
 ·obtain⟨m,rfl⟩:∃m:Nat,n=(m:Int)+1:=⟨n.toNat-1,by omega⟩
  have hm:(m:Int)+1-1=(m:Int):=by omega
  have hd:m/480≤m:=ue _ _
  refine zC rfl uN (by simp<;>omega) ?_
  refine zk 6 rfl (zo rfl (aA (r:=.int .i64 (m:Int)) rfl rfl ((iM (a:=(m:Int)+1) (b:=1) (aB (by omega) (by omega))).trans (by rw[hm]))) ?_)
  refine zb rfl (yB (a:=m) (b:=480) (by decide) (by omega)) ?_
  refine zb rfl (by exact bC (aB (by omega) (by omega))) ?_
  exact zk 2 rfl (WP.ret ⟨aa,_,rfl,by rw[iC,ak (by omega),show((m:Int)+1).toNat-1=m by omega];rfl,rfl⟩)
noncomputable def teL : Code:=cN [1,1,0,1,0,0] ((Tryz.f16.body).getD .skip)
theorem OH (hn:n≤9000): ∀(m i:Nat) (h:H) (E:List (Nat×V)) (Q:Ex→List (Nat×V)→H→Prop),i+m=n→Sat h (aQ v (pM f i++List.replicate m 0)::S)→Has E [(0,.int .i64 (n:Int)),(1,.int .u8 (f:Int)),(5,v),(6,.int .i64 (i:Int))] →
  (∀E' h',Has E' [(5,v)]→Sat h' (aQ v (pM f n)::S)→Q (.exit 0) E' h')→WP ⟨Tryz.prog,told⟩ 23 (.loop teL) E h Q:=by
 intro m
 induction m with
 |zero =>
  intro i h E Q hi s I J
  refine WP.loop (WP.has I (zK 5 rfl (zC rfl bh (by simp;omega) ?_)))
  refine zk 2 rfl (WP.exit ?_)
  obtain rfl:i=n:=by omega
  rw[List.replicate_zero,dS] at s
  exact J _ _ ⟨rfl,aa⟩ s
 |succ m ih =>
  intro i h E Q hi s I J
  obtain⟨id,off,e3,h2,e4,s2⟩:=nE s (i:=i) (b:=(f+i*7)%256) (by rw[bV,vE,fN];omega) (by omega)
  rw[RN] at s2
  refine WP.loop (WP.has I (zK 5 rfl (zB rfl bh (by simp;omega) ?_)))
  refine zk 4 rfl (WP.block (zK 5 rfl (zo rfl (aA (r:=.int .i64 ((i*7:Nat):Int)) rfl rfl (by rw[show((i*7:Nat):Int)=(i:Int)*7 by omega];exact kJ (aB (by omega) (by omega)))) ?_)))
  refine zo rfl (cJ rfl RO) (zb rfl aaj (zo rfl (cK (r:=.ptr id off) rfl rfl e3) (zS rfl (⟨h2,e4,s2⟩) ?_)))
  rintro h s
  refine zv (zr rfl (zm rfl (zb rfl (by exact bC (aB (by omega) (by omega))) ?_)))
  refine za rfl (zv ?_)
  exact ih (i+1) _ _ Q (by omega) s ⟨rfl,rfl,rfl,rfl,aa⟩ J
theorem Uv (I:W told)(J:n≤9000)(s:Sat h S): Call ⟨Tryz.prog,told⟩ 16 [.int .i64 (n:Int),.int .u8 (f:Int)] h fun v h'=>Sat h' (aQ v (pM f n)::S):=by
 refine Call.of_wp (I.free _ rfl) Tryz.func16 rfl rfl (zK 7 rfl (ax.any rfl rfl rfl (OpR.gQ rfl s rfl rfl rfl rfl (by omega)) ?_))
 intro v h s
 refine zk 7 rfl (WP.block ?_)
 refine OH J n 0 _ _ _ (by omega) s ⟨rfl,rfl,rfl,rfl,aa⟩ (fun E' h' hE s' => ?_)
 have s:=s'
 exact WP.has hE (zK 5 rfl (WP.ret ⟨aa,_,rfl,s⟩))
theorem OI (J:WC told)(s:Sat h S): Call ⟨Tryz.prog,told⟩ 11 [] h fun v h'=>v=.bool true∧Sat h' S:=by
 have LK:(cM sX 16).length=14:=RM (by decide)
 have iK:iC 2=1:=rfl
 refine Call.of_wp (J.w.free _ rfl) Tryz.func11 rfl rfl (zK 6 rfl (zc rfl (HA (n:=16) (m:=262144) (f:=16) J.ws (by decide) (by decide) (by decide) (by decide) (by decide) (by decide) s) ?_))
 rintro v h ⟨p,a,q,r,ε,rfl,eY,hp,hd,s⟩
 refine zk 6 rfl (zC rfl (vz sQ) (rfl) (zk 6 rfl (zc rfl (GZ J.w s) ?_)))
 rintro v h1 ⟨g,rfl,s⟩
 refine zk 6 rfl (zC rfl (vz lu) (rfl) (zk 6 rfl (ax.any rfl rfl rfl (OpR.of (R:=fun v h'=>v=.sl h1.next 0 2 (.exact 2)∧h'=newRow h1 (ofBytes [97,98])) (ke rfl (aal (x:=97) (y:=98))) ⟨rfl,rfl⟩) ?_)))
 rintro v I ⟨rfl,rfl⟩
 have s1:Sat (newRow h1 (ofBytes [97,98])) (pt h1.next (.cells 2 (ofBytes [97,98]) false)::_):=s.new _
 generalize newRow h1 (ofBytes [97,98])=I at s1
 generalize h1.next=id at s1
 have hg:=s1.row (k:=0) rfl
 have e1:convB Tryz.prog I 28 28 (.sl id 0 2 (.exact 2))=some (.sl id 0 2 (.exact 2),I.put id (some (.cells 2 (ofBytes [97,98]) true))):=by
  simp only[convB,aK,Tryz.underlying5,hg]
  rfl
 have e0:convV Tryz.prog I 28 28 (.sl id 0 2 (.exact 2))=none:=by
  simp only[convV,aK]
 have s2:Sat (I.put id (some (.cells 2 (ofBytes [97,98]) true))) (pt id (.cells 2 (ofBytes [97,98]) true)::_):=s1.put (k:=0) rfl
 have s3:Sat (I.put id (some (.cells 2 (ofBytes [97,98]) true))) (.bY (.sl id 0 2 (.exact 2)) [97,98]::_):=s2.freeze.gK (B:=.bY (.sl id 0 2 (.exact 2)) [97,98]) fun m r hm=>⟨by decide,.inr ⟨id,0,.exact 2,2,_,true,rfl,hm,rfl,by decide,rfl,by decide⟩⟩
 refine ax.any rfl rfl rfl (OpR.of (R:=fun v h'=>v=.sl id 0 2 (.exact 2)∧h'=I.put id (some (.cells 2 (ofBytes [97,98]) true))) (MI rfl e0 e1) ⟨rfl,rfl⟩) ?_
 rintro v h ⟨rfl,rfl⟩
 have s:=s3.ae [1]
 refine zc rfl (RL (b:=[97,98]) (M:=sX) (now:=[]) (m:=1) J.w (by decide) (c8 _ _) (by decide) eY (NW.nil 16) hp iK (by omega) s) ?_
 rintro v h ⟨pG,aew,M1,rfl,oQ,jD,BV,V9,vm,s⟩
 obtain⟨z,qs,hz,Mc⟩:=headD_cons (L:=(cM sX 16).take 1) (by rw[fO];omega)
 have hzl:qs.length=0:=by have:=jm List.length hz;rw[fO,bF] at this;omega
 have mN:∀x∈z::qs,x<16:=fun x hx=>(si.1 (ko (hz ▸ hx))).1
 have qP:flatL (chunks [97,98] 1)=[97,98]:=rfl
 rw[Mc]
 rw[hz] at vm
 refine zk 9 rfl (zo rfl (qS rfl (mki_of lu rfl)) (zm rfl (zc rfl (Up J (aab W.base (by decide) BV) ⟨rfl,rfl,by simp[V.beq]⟩ (by decide) oQ vm mN (by omega) s) ?_)))
 rintro v h ⟨u,fM,rfl,jW,jg,s⟩
 rw[qP] at s
 have oO:=(s.buf (k:=0) rfl).view
 refine zk 9 rfl (zB rfl eu (by decide) ?_)
 refine zk 2 rfl (zB rfl eu (by decide) ?_)
 refine zk 3 rfl (zo rfl (cJ rfl (Q0 oO)) (zB rfl NK (decide_eq_true rfl) (zk 2 rfl (zc rfl (xy (n:=481) J.w (by decide)) ?_))))
 rintro v h' ⟨rfl,rfl⟩
 refine zB rfl eu (by decide) ?_
 exact zk 3 rfl (WP.ret ⟨aa,_,rfl,rfl,((s.drop).drop).drop⟩)
end
structure HC (P:Int→List Nat)(ps:List Nat)(x:Int×List Nat): Prop where
 hd:x.1=((ps.headD 0:Nat):Int)
 len:ps.length=iC x.2.length
 ch:mO P ps (chunks x.2 ps.length)
 sz:x.2.length≤8192
structure mC (N:Nat)(P:Int→List Nat)(dy:List (List Nat))(m:List (Int×List Nat)): Prop where
 len:dy.length=m.length
 ch:∀(i:Nat) (ps:List Nat) (x:Int×List Nat),dy[i]?=some ps→m[i]?=some x→HC P ps x
 nd:dy.flatten.Nodup
 lt:∀z∈dy.flatten,2≤z∧z<N
theorem Uw : ∀ {l:List Nat},l.Nodup→(∀z∈l,z<N)→l.length≤N:=by
 intro l I hz
 have J:((List.range N).filter fun i=>decide (i∈l)).Perm l:=by
  refine(LJ ?_ I).2 fun a => ?_
  ·exact(EJ _ EE).imp fun h=>qg h
  grind
 rw[←J.length_eq]
 grind
theorem RP (h:dy[i]?=some ps): (dy.take (i+1)).flatten=(dy.take i).flatten++ps:=by
 grind[List.take_add_one]
theorem mC.Ce {m:List (Int×List Nat)}(h:mC N P dy m): dy.flatten.length≤N:=Uw h.nd fun z I=>(h.lt z I).2
theorem HC.one {x:Int×List Nat}(h:HC P ps x): 1≤ps.length:=by have:=yF (n:=x.2.length);have:=h.len;omega
theorem mC.acZ {m:List (Int×List Nat)}(h:mC N P dy m): m.length≤dy.flatten.length:=by
 have key:∀(l:List (List Nat)),(∀ps∈l,1≤ps.length)→l.length≤l.flatten.length:=by
  intro l
  induction l<;>grind
 have J:=key dy fun ps hp=>by
  obtain⟨i,hi⟩:=tZ hp
  have I:=(List.getElem?_eq_some_iff.1 hi).1
  have hm:m[i]?=some (m[i]'(by rw[←h.len];exact I)):=bx _
  exact(h.ch i ps _ hi hm).one
 rw[←h.len]
 exact J
theorem mC.cV {m:List (Int×List Nat)}(h:mC N P dy m): m.length≤N:=bX h.acZ h.Ce
theorem mC.used {m:List (Int×List Nat)}(h:mC N P dy m)(hN:2≤N)(I:∀j,j<N→bt M j=(decide (j<2)||decide (j∈dy.flatten))): (mP (bt M) N).length=2+dy.flatten.length:=by
 have J:(mP (bt M) N).Perm (0::1::dy.flatten):=by
  refine(LJ ?_ ?_).2 fun a => ?_
  ·exact(EJ _ EE).imp fun h=>qg h
  ·refine List.nodup_cons.2 ⟨fun q => ?_,List.nodup_cons.2 ⟨fun q => ?_,h.nd⟩⟩
   ·rcases List.mem_cons.1 q with q|q
    ·omega
    ·have:=h.lt 0 q;omega
   ·have:=h.lt 1 q;omega
  ·unfold mP
   rw[List.mem_filter,List.mem_range,kP,kP]
   constructor
   ·grind
   ·intro q
    have ha:a<N:=by
     rcases q with q|q|q
     ·omega
     ·omega
     ·exact(h.lt a q).2
    rw[I a ha,Bc,gE,gE]
    rcases q with q|q|q
    ·omega
    ·omega
    ·grind
 rw[J.length_eq]
 simp only[bF]
 omega
section
variable {P:Program} {v:V} {m:List (Int×List Nat)} {x:Int×List Nat}
def V_ (X:aL)(k:Nat)(v:V)(cs:List V): Prop:=∀m r,X.p m r→rN m k v cs∨rN r k v cs
theorem Sat.vY (s:Sat h S)(I:getA S j=some X)(J:V_ X k v cs): rN (T.get h.tr) k v cs:=by
 obtain⟨m,r,h1,h2,h3⟩:=s.at I
 rcases J _ _ h3 with q|q
 ·exact q.up h1
 ·exact q.up h2
theorem J4 (a:rN (T.get h.tr) k v cs)(J:cs.length=n*k)(hk:1≤k)(hu:P.underlying t=some (.slice e)): lenV P h t v=some (.int .i64 n):=by
 rcases a.2 with⟨rfl,rfl⟩|⟨id,n',cap,N,rest,rfl,_,q,_⟩
 ·have:n=0:=by
   rcases A7 n with I|I
   ·exact I
   ·have:=rK I hk
    simp at J
    omega
  subst this
  exact L5 hu
 grind[Nat.eq_of_mul_eq_mul_right,DE]
theorem OJ (a:rN (T.get h.tr) k v cs)(hi:i*k+k≤cs.length)(J:1≤k)(hu:P.underlying t=some (.slice e))(I:bN P e=some k):
  ∃id off,indexAddrV P t v (.int .i64 (i:Int))=some (.ptr id off)∧∀m c t',((cs.drop (i*k)).take k)[m]?=some c→isAggT P t'=some false→loadV P h t' (.ptr id (off+m))=some c:=by
 rcases a.2 with⟨_,rfl⟩|⟨id,n,cap,N,rest,rfl,hg,e1,e2,_⟩
 ·grind
 ·refine⟨id,i*k,?_,fun m c t' hc ht=>PY ht hg ?_⟩
  ·simp only[indexAddrV,hu,I,dY]
   have:i<n:=by
    have h4:i*k+k=(i+1)*k:=by grind
    rw[h4,e1] at hi
    exact ER (EB hi J)
   grind
  grind[ir]
theorem Wa (s:Sat h (jG cs m::S))(I:m[i]?=some x): ∃u,(cs.drop (i*2)).take 2=[.int .i64 x.1,u]∧Sat h (.bY u x.2::jG cs m::S):=by
 obtain⟨a,b,q1,q2,J⟩:=s.at (k:=0) rfl
 obtain⟨u,e1,e2⟩:=MB J I
 exact⟨u,e1,(s.dup (aV.jG _ _)).gK (B:=.bY u x.2) fun a b h=>by
  grind[MB]⟩
theorem xz (s:Sat h S)(I:getA S k=some (jG cs m)): cs.length=m.length*2:=by
 obtain⟨a,b,q1,q2,J⟩:=s.at I
 exact XL J
end
section
variable {told:cR} {c:Nat} {v w lv:V} {seen:List Nat} {m:List (Int×List Nat)} {pg:aX→Int→List Nat}
noncomputable def ftA : Code:=cN [1,1,1,1,1,0,1,0,0] ((Tryz.f29.body).getD .skip)
noncomputable def ftB : Code:=cN [1,1,1,1,1,0,1,0,0,1,0,0,1,1,1,0,1,0,0] ((Tryz.f29.body).getD .skip)
noncomputable def ftC : Code:=cN [1,1,1,1,1,0,1,0,0,1,0,0,1,1,1,0,1,0,0,1,0,0,0,1,0,0] ((Tryz.f29.body).getD .skip)
theorem aam (hsn:seen.length≤100000)(vi:ps.length≤100000)(hz:ps[j]?=some z)(s:Sat h (.arr 1 sv (bG seen)::.arr 1 wv (bG ps)::S)): ∀(d k:Nat) (E:List (Nat×V)) (Q:Ex→List (Nat×V)→H→Prop),k+d=seen.length →
  Has E [(0,rv),(1,lv),(5,x),(6,.int .i64 0),(8,.int .i64 0),(9,.int .i64 (c:Int)),(10,sv),(11,.int .i64 (n:Int)),(14,wv),(16,.int .i64 (j:Int)),(17,.int .i64 (k:Int))] →
  (∀E',Has E' [(0,rv),(1,lv),(5,x),(6,.int .i64 0),(8,.int .i64 0),(9,.int .i64 (c:Int)),(10,sv),(11,.int .i64 (n:Int)),(14,wv),(16,.int .i64 (j:Int))]→Q (.exit 4) E' h)→(z∈seen→∀E',look E' 4=some (.bool false)→Q .ret E' h)→WP ⟨Tryz.prog,told⟩ 144 (.loop ftC) E h Q:=by
 have hlen:(bG seen).length=seen.length*1:=by rw[gh,eF]
 have J2:(bG ps)[j]?=some (.int .i64 (z:Int)):=by rw[bG,qf,hz];rfl
 obtain⟨kF,J,e3,e4⟩:=gJ (P:=Tryz.prog) s (k:=1) (i:=j) rfl J2 cf jF
 intro d
 induction d with
 |zero =>
  intro k E Q hk hE hq I
  refine WP.loop (WP.has hE (zK 5 rfl (zo rfl (aN rfl rfl rfl (s.dZ (n:=seen.length) (j:=0) rfl hlen (by decide) cf)) ?_)))
  refine zC rfl bh (by simp;omega) ?_
  exact zk 2 rfl (WP.exit (hq _ ⟨rfl,rfl,rfl,rfl,rfl,rfl,rfl,rfl,rfl,rfl,aa⟩))
 |succ d ih =>
  intro k E Q hk hE hq I
  have hy:seen[k]?=some (seen[k]'(by omega)):=bx _
  generalize (seen[k]'(by omega))=y at hy
  have J1:(bG seen)[k]?=some (.int .i64 (y:Int)):=by rw[bG,qf,hy];rfl
  obtain⟨id,off,e1,e2⟩:=gJ (P:=Tryz.prog) s (k:=0) (i:=k) rfl J1 cf jF
  refine WP.loop (WP.has hE (zK 5 rfl (zo rfl (aN rfl rfl rfl (s.dZ (n:=seen.length) (j:=0) rfl hlen (by decide) cf)) ?_)))
  refine zB rfl bh (by simp;omega) ?_
  refine zk 4 rfl (WP.block (zw (WP.drawn [ah,ah,ah,ah,ah,ah,ah,ah,ah] rfl (by kernel_rfl) (by kernel_rfl) ?_)))
  refine zM rfl (zM rfl (zO rfl (cK (r:=.ptr id off) rfl rfl e1) (zL rfl (e2 _ dN) (zM rfl (zM rfl (zO rfl (cK (r:=.ptr kF J) rfl rfl e3) (zL rfl (e4 _ dN) ?_)))))))
  by_cases hyz:y=z
  ·skip
   refine ay.tE rfl rfl rfl rfl (aA rfl rfl eu) (by simp;omega) ?_
   refine ay.nil ⟨⟨aa,aa,aa,aa,aa,aa,aa,aa,aa,aa⟩,?_⟩
   refine zi rfl (zg rfl (za rfl (zv (WP.ret ?_))))
   exact I (by rw[←hyz];exact bD hy) _ rfl
  ·skip
   refine ay.oN rfl rfl rfl rfl (aA rfl rfl eu) (by simp;omega) ?_
   refine ay.nil ⟨⟨aa,aa,aa,aa,aa,aa,aa,aa,aa,aa⟩,?_⟩
   refine zj rfl (WP.skip (zr rfl (zm rfl (zb rfl (by exact bC (aB (by omega) (by omega))) ?_))))
   refine za rfl (zv ?_)
   exact ih (k+1) _ Q (by omega) ⟨rfl,rfl,rfl,rfl,rfl,rfl,rfl,rfl,rfl,rfl,rfl,aa⟩ hq I
theorem aan (hsn:seen.length≤90000)(vi:ps.length≤9000): ∀(d j:Nat) (sv:V) (h:H) (E:List (Nat×V)) (Q:Ex→List (Nat×V)→H→Prop),j+d=ps.length →
  Sat h (.arr 1 sv (bG (seen++ps.take j))::.arr 1 wv (bG ps)::S) →
  Has E [(0,rv),(1,lv),(5,x),(6,.int .i64 0),(8,.int .i64 0),(9,.int .i64 (c:Int)),(10,sv),(11,.int .i64 (n:Int)),(14,wv),(16,.int .i64 (j:Int))] →
  (∀J E' h',Has E' [(0,rv),(1,lv),(5,x),(6,.int .i64 0),(8,.int .i64 0),(9,.int .i64 (c:Int)),(10,J),(11,.int .i64 (n:Int)),(14,wv)]→Sat h' (.arr 1 J (bG (seen++ps))::.arr 1 wv (bG ps)::S)→Q (.exit 2) E' h') →
  (¬ (seen++ps).Nodup→∀E' h',look E' 4=some (.bool false)→Sat h' S→Q .ret E' h')→WP ⟨Tryz.prog,told⟩ 144 (.loop ftB) E h Q:=by
 have hlen:(bG ps).length=ps.length*1:=by rw[gh,eF]
 intro d
 induction d with
 |zero =>
  intro j sv h E Q hj s hE hq I
  refine WP.loop (WP.has hE (zK 5 rfl (zo rfl (aN rfl rfl rfl (s.dZ (n:=ps.length) (j:=1) rfl hlen (by decide) cf)) ?_)))
  refine zC rfl bh (by simp;omega) ?_
  refine zk 2 rfl (WP.exit ?_)
  rw[gj (by omega)] at s
  exact hq sv _ _ ⟨rfl,rfl,rfl,rfl,rfl,rfl,rfl,rfl,rfl,aa⟩ s
 |succ d ih =>
  intro j sv h E Q hj s hE hq I
  have hz:ps[j]?=some (ps[j]'(by omega)):=bx _
  generalize (ps[j]'(by omega))=z at hz
  have Mr:z∈seen++ps.take j→¬ (seen++ps).Nodup:=fun q iK=>by
   have e2:seen++ps=(seen++ps.take j)++z::ps.drop (j+1):=by
    obtain⟨h1,h2⟩:=List.getElem?_eq_some_iff.1 hz
    rw[cP,←h2,List.getElem_cons_drop,wg]
   rw[e2] at iK
   exact(List.nodup_append.1 iK).2.2 z q z bZ rfl
  have RQ:(ps.take j).length≤ps.length:=by rw[fO];omega
  have J2:(bG ps)[j]?=some (.int .i64 (z:Int)):=by rw[bG,qf,hz];rfl
  refine WP.loop (WP.has hE (zK 5 rfl (zo rfl (aN rfl rfl rfl (s.dZ (n:=ps.length) (j:=1) rfl hlen (by decide) cf)) ?_)))
  refine zB rfl bh (by simp;omega) ?_
  refine zk 4 rfl (WP.block (zK 5 rfl (WP.block ?_)))
  refine aam (x:=x) (lv:=lv) (n:=n) (c:=c) (rv:=rv) (by rw[bV];omega) (by omega) hz s (seen++ps.take j).length 0 _ _ (by omega) ⟨rfl,rfl,rfl,rfl,rfl,rfl,rfl,rfl,rfl,rfl,rfl,aa⟩ (fun E' hE => ?_) (fun q E' he=>I (Mr q) _ _ he (s.drop).drop)
  obtain⟨id,off,e3,e4⟩:=gJ (P:=Tryz.prog) s (k:=1) (i:=j) rfl J2 cf jF
  refine WP.has hE (zK 4 rfl (zo rfl (cK (r:=.ptr id off) rfl rfl e3) (zl rfl (e4 _ dN) ?_)))
  obtain⟨iv,h1,w,h2,e5,e6,s2⟩:=CS (k:=z) s (by rw[bV];omega)
  have et:seen++ps.take j++[z]=seen++ps.take (j+1):=by rw[wq,hz,cP];rfl
  rw[et] at s2
  refine ax.any rfl rfl rfl (OpR.of (R:=fun v h'=>v=iv∧h'=h1) (ke rfl e5) ⟨rfl,rfl⟩) ?_
  rintro iv h1 ⟨rfl,rfl⟩
  refine ax.any rfl rfl rfl (OpR.of (R:=fun v h'=>v=w∧h'=h2) (jI rfl rfl e6) ⟨rfl,rfl⟩) ?_
  rintro w h2 ⟨rfl,rfl⟩
  refine za rfl (zv (zr rfl (zm rfl (zb rfl (by exact bC (aB (by omega) (by omega))) ?_))))
  refine za rfl (zv ?_)
  exact ih (j+1) _ _ _ Q (by omega) s2 ⟨rfl,rfl,rfl,rfl,rfl,rfl,rfl,rfl,rfl,rfl,aa⟩ hq I
structure Lk (N:Nat)(P:Int→List Nat)(m:List (Int×List Nat)): Prop where
 Ce:m.length≤3000
 sz:∀y∈m,y.2.length≤8192
 rd:∀y∈m,∃(z:Nat) (r:Option (List Nat×List Nat)),y.1=(z:Int)∧Rd N P 65536 z r
theorem HC.rd {x:Int×List Nat}(h:HC P ps x)(I:∀u∈ps,u<N): ∃z:Nat,x.1=(z:Int)∧Rd N P 65536 z (some (ps,x.2)):=by
 obtain⟨z,qs,rfl,J⟩:=headD_cons h.one
 have hl:=h.len
 have hs:=h.sz
 have:iC x.2.length≤1000:=by unfold iC;split<;>omega
 rw[bF] at hl
 have:=mO.rd (left:=65536) h.ch I (by omega) (by omega)
 rw[h.len,Ep] at this
 exact⟨z,by rw[h.hd,J],this⟩
theorem aao (hT:WC told)(hR:tG mV N B rv A pg)(hv:En rv)(hX:V_ X 2 lv cs)(xu:N≤2999)(hc:G→mC N (pg ε) dy m)(hk:Lk N (pg ε) m): ∀(d i:Nat) (sv:V) (seen:List Nat) (af:aX) (h:H) (E:List (Nat×V)) (Q:Ex→List (Nat×V)→H→Prop),i+d=m.length→EI N B af→Sm N ε af→seen.length≤18*i→(G→seen=(dy.take i).flatten) →
  Sat h (.arr 1 sv (bG seen)::X::jG cs m::A af::S) →
  Has E [(0,rv),(1,lv),(5,x),(6,.int .i64 0),(8,.int .i64 0),(9,.int .i64 ((2+seen.length:Nat):Int)),(10,sv),(11,.int .i64 (i:Int))] →
  (∀GF seen' J E' h',EI N B J→Sm N ε J→seen'.length≤60000→(G→seen'=dy.flatten)→Has E' [(5,x),(6,.int .i64 0),(8,.int .i64 0),(9,.int .i64 ((2+seen'.length:Nat):Int))]→Sat h' (.arr 1 GF (bG seen')::X::jG cs m::A J::S)→Q (.exit 0) E' h') →
  (∀J E' h',¬ G→EI N B J→Sm N ε J→look E' 4=some (.bool false)→Sat h' (X::jG cs m::A J::S)→Q .ret E' h')→WP ⟨Tryz.prog,told⟩ 144 (.loop ftA) E h Q:=by
 have xj:=hk.Ce
 intro d
 induction d with
 |zero =>
  intro i sv seen af h E Q hi eY hs hsn hG s hE hq hf
  have je:=xz s (k:=2) rfl
  refine WP.loop (WP.has hE (zK 5 rfl (zo rfl (aN rfl rfl rfl (J4 (n:=m.length) (s.vY (j:=1) rfl hX) je (by decide) mA)) ?_)))
  refine zC rfl bh (by simp;omega) ?_
  exact zk 2 rfl (WP.exit (hq sv seen af _ _ eY hs (by omega) (fun g=>by rw[hG g,gj (by rw[(hc g).len];omega)]) ⟨rfl,rfl,rfl,rfl,aa⟩ s))
 |succ d ih =>
  intro i sv seen af h E Q hi eY hs hsn hG s hE hq hf
  have je:=xz s (k:=2) rfl
  have hx:m[i]?=some (m[i]'(by omega)):=bx _
  generalize (m[i]'(by omega))=y at hx
  have fC:=hk.sz y (bD hx)
  have ep:∀ {fM:aX},Sm N ε fM→pg fM=pg ε:=fun q=>funext (hR.same q)
  -- what is told
  obtain⟨z,r,RR,jw,hr⟩:∃(z:Nat) (r:Option (List Nat×List Nat)),y.1=(z:Int)∧Rd N (pg ε) 65536 z r∧(G→∃ps,dy[i]?=some ps∧ps.length=iC y.2.length∧r=some (ps,y.2)):=by
   by_cases g:G
   ·have hc:=hc g
    have zW:dy[i]?=some (dy[i]'(by rw[hc.len];omega)):=bx _
    generalize (dy[i]'(by rw[hc.len];omega))=ps at zW
    have hC:=hc.ch i ps y zW hx
    obtain⟨z,h1,h2⟩:=hC.rd fun u hu=>(hc.lt u (List.mem_flatten.2 ⟨ps,bD zW,hu⟩)).2
    exact⟨z,_,h1,h2,fun _=>⟨ps,zW,hC.len,rfl⟩⟩
   ·obtain⟨z,r,h1,h2⟩:=hk.rd y (bD hx)
    exact⟨z,r,h1,h2,fun q=>absurd q g⟩
  obtain⟨uv,hu,s⟩:=Wa (s.ae [2]) hx
  dsimp only[bringA,getA,aI] at s
  have s:=s.ae [4,2,2,1,0]
  dsimp only[bringA,getA,aI] at s
  refine WP.loop (WP.has hE (zK 5 rfl (zo rfl (aN rfl rfl rfl (J4 (n:=m.length) (s.vY (j:=2) rfl hX) je (by decide) mA)) ?_)))
  refine zB rfl bh (by simp;omega) ?_
  refine zk 4 rfl (WP.block (zK 5 rfl ?_))
  obtain⟨id,off,e1,e2⟩:=OJ (P:=Tryz.prog) (i:=i) (s.vY (j:=2) rfl hX) (by omega) (by decide) mA Al
  have qN:=e2 0 (.int .i64 y.1) 3 (by rw[hu];rfl) dN
  rw[RR] at qN
  refine zo rfl (cK (r:=.ptr id off) rfl rfl e1) (zf rfl (DG _ _) (zl rfl qN (zc rfl (GX hT hR hv (by omega) (by rw[ep hs];exact jw) eY s) ?_)))
  rintro v h ⟨u,e,fM,rfl,jW,jg,ac0⟩
  have jg:=hs.trans jg
  obtain⟨bs,B7,s⟩:∃bs,((∃ps,r=some (ps,bs)∧e=0)∨(r=none∧e=4))∧Sat h (aQ u bs::A fM::.arr 1 sv (bG seen)::X::jG cs m::.bY uv y.2::S):=by
   rcases ac0 with⟨ps,bs,k1,k2,k3⟩|⟨k1,k2,rfl,k3⟩
   ·exact⟨bs,.inl ⟨ps,k1,k2⟩,k3⟩
   ·exact⟨[],.inr ⟨k1,k2⟩,k3.DO⟩
  have s:=s.ae [1,0]
  dsimp only[bringA,getA,aI] at s
  obtain⟨id,off,e1,e2⟩:=OJ (P:=Tryz.prog) (i:=i) (s.vY (j:=3) rfl hX) (by omega) (by decide) mA Al
  have qN:=e2 0 (.int .i64 y.1) 3 (by rw[hu];rfl) dN
  rw[RR] at qN
  refine zk 11 rfl (zo rfl (cK (r:=.ptr id off) rfl rfl e1) (zf rfl (DG _ _) (zl rfl qN (zc rfl (OE hT hR hv (by omega) (by rw[ep jg];exact jw) jW s) ?_))))
  rintro v h ⟨wv,e',tW,rfl,vC,lS,ac1⟩
  have lS:=jg.trans lS
  obtain⟨ps,zW,s⟩:∃ps,((∃bs,r=some (ps,bs)∧e'=0)∨(r=none∧e'=4))∧Sat h (.arr 1 wv (bG ps)::A tW::aQ u bs::.arr 1 sv (bG seen)::X::jG cs m::.bY uv y.2::S):=by
   rcases ac1 with⟨ps,bs,k1,k2,k3⟩|⟨k1,k2,rfl,k3⟩
   ·exact⟨ps,.inl ⟨bs,k1,k2⟩,k3⟩
   ·exact⟨[],.inr ⟨k1,k2⟩,k3.m6⟩
  refine zk 8 rfl ?_
  obtain⟨id,off,e1,e2⟩:=OJ (P:=Tryz.prog) (i:=i) (s.vY (j:=4) rfl hX) (by omega) (by decide) mA Al
  have qN:=e2 0 (.int .i64 y.1) 3 (by rw[hu];rfl) dN
  have qD:=e2 1 uv 28 (by rw[hu];rfl) bE
  rw[RR] at qN
  have Gy:=(s.ju (j:=0) rfl).2.2
  have oO:=(s.buf (k:=2) rfl).view
  have nL:=s.aD (k:=6) rfl (c8 _ _)
  have Ap:(bG ps).length=ps.length*1:=by rw[gh,eF]
  have Ux:¬ G→∀(E':List (Nat×V)),look E' 4=some (.bool false)→Q .ret E' h:=fun g E' he=>hf tW E' h g vC lS he ((((s.ae [4,4,1]).del 6).del 5).del 4 |>.del 3)
  have s0:=s
  refine WP.drawn [ah,ah,ah,ah,ah,ah,ah,ah,ah,ah,ah,ah,ah,ah,ah,ah,ah,ah,some (0,2),some (0,2),ah,ah,ah,ah,ah,ah,ah,ah,ah,ah,ah,ah,ah,ah,ah,ah,ah,ah,ah,ah,ah,ah,ah,ah,ah] rfl (by kernel_rfl) (by kernel_rfl) ?_
  refine zM rfl ?_
  rcases B7 with⟨I,j7,rfl⟩|⟨j7,rfl⟩
  rotate_left
  ·skip
   refine ay.tE rfl rfl rfl rfl (aA rfl rfl aE) (by decide) ?_
   refine zM rfl (ay.no (e:=false) rfl rfl rfl rfl (ay.no (e:=false) rfl rfl rfl (by simp only[isEff,qW]) ?_))
   refine ay.no (e:=false) rfl rfl rfl rfl (ay.no (e:=false) rfl rfl rfl rfl (ay.no (e:=false) rfl rfl rfl rfl (ay.no (e:=false) rfl rfl rfl rfl (ay.no (e:=false) rfl rfl rfl rfl (ay.no (e:=false) rfl rfl rfl (by simp only[isEff,qW]) ?_)))))
   refine ay.no (e:=false) rfl rfl rfl rfl (zO rfl (iH rfl rfl) (zM rfl (ay.no (e:=false) rfl rfl rfl rfl (ay.no (e:=false) rfl rfl rfl rfl (zO rfl (iH rfl rfl) (zM rfl (ay.no (e:=false) rfl rfl rfl rfl (ay.no (e:=false) rfl rfl rfl rfl (ay.no (e:=false) rfl rfl rfl rfl (ay.no (e:=false) rfl rfl rfl rfl (ay.no (e:=false) rfl rfl rfl rfl (ay.no (e:=false) rfl rfl rfl rfl (ay.no (e:=false) rfl rfl rfl rfl (ay.no (e:=false) rfl rfl rfl rfl (ay.no (e:=true) rfl rfl rfl rfl (ay.no (e:=false) rfl rfl rfl rfl (zO rfl (iH rfl rfl) (zM rfl (ay.no (e:=false) rfl rfl rfl rfl (ay.no (e:=false) rfl rfl rfl rfl (ay.no (e:=false) rfl rfl rfl rfl (zO rfl (iH rfl rfl) (zM rfl (ay.no (e:=false) rfl rfl rfl rfl (ay.no (e:=false) rfl rfl rfl rfl (ay.no (e:=false) rfl rfl rfl rfl (ay.no (e:=false) rfl rfl rfl rfl (ay.no (e:=false) rfl rfl rfl rfl (ay.no (e:=false) rfl rfl rfl rfl (ay.no (e:=false) rfl rfl rfl rfl (ay.no (e:=false) rfl rfl rfl rfl (ay.no (e:=false) rfl rfl rfl rfl (zO rfl (iH rfl rfl) ?_)))))))))))))))))))))))))))))))))
   refine ay.nil ⟨⟨aa,aa,aa,aa,aa,aa,aa,aa,aa,aa,aa,aa,aa,aa,aa,aa,aa,aa,fun _ _=>.inl rfl,fun _ _=>.inl rfl,aa,aa,aa,aa,aa,aa,aa,aa,aa,aa,aa,aa,aa,aa,aa,aa,aa,aa,aa,aa,aa,aa,aa,aa,aa,aa⟩,?_⟩
   exact zK 5 rfl (WP.ret (Ux (fun g=>by obtain⟨_,_,_,q⟩:=hr g;rw[j7] at q;cases q) _ rfl))
  obtain⟨rfl,rfl⟩:I=ps∧e'=0:=by
   rcases zW with⟨_,q,q2⟩|⟨q,_⟩
   ·rw[j7] at q;cases q;exact⟨rfl,q2⟩
   ·rw[j7] at q;cases q
  refine ay.oN rfl rfl rfl rfl (aA rfl rfl aE) (by decide) ?_
  refine zM rfl (zM rfl (ay.op rfl rfl rfl (by simp only[isEff,qW]) (cJ rfl (Q0 oO)) ?_))
  refine zM rfl (zM rfl (zO rfl (cK (r:=.ptr id off) rfl rfl e1) (zF rfl (Qc _ _) (zL rfl qD (ay.op rfl rfl rfl (by simp only[isEff,qW]) (cJ rfl (Q0 nL)) ?_)))))
  by_cases hB:bs=y.2
  rotate_left
  ·skip
   refine ay.tE rfl rfl rfl rfl (aA rfl rfl Vw) (by simp[hB]) ?_
   refine zO rfl (kr rfl rfl) (zM rfl (ay.no (e:=false) rfl rfl rfl rfl (ay.no (e:=false) rfl rfl rfl rfl (zO rfl (iH rfl rfl) (zM rfl (ay.no (e:=false) rfl rfl rfl rfl (ay.no (e:=false) rfl rfl rfl rfl (ay.no (e:=false) rfl rfl rfl rfl (ay.no (e:=false) rfl rfl rfl rfl (ay.no (e:=false) rfl rfl rfl rfl (ay.no (e:=false) rfl rfl rfl rfl (ay.no (e:=false) rfl rfl rfl rfl (ay.no (e:=false) rfl rfl rfl rfl (ay.no (e:=true) rfl rfl rfl rfl (ay.no (e:=false) rfl rfl rfl rfl (zO rfl (iH rfl rfl) (zM rfl (ay.no (e:=false) rfl rfl rfl rfl (ay.no (e:=false) rfl rfl rfl rfl (ay.no (e:=false) rfl rfl rfl rfl (zO rfl (iH rfl rfl) (zM rfl (ay.no (e:=false) rfl rfl rfl rfl (ay.no (e:=false) rfl rfl rfl rfl (ay.no (e:=false) rfl rfl rfl rfl (ay.no (e:=false) rfl rfl rfl rfl (ay.no (e:=false) rfl rfl rfl rfl (ay.no (e:=false) rfl rfl rfl rfl (ay.no (e:=false) rfl rfl rfl rfl (ay.no (e:=false) rfl rfl rfl rfl (ay.no (e:=false) rfl rfl rfl rfl (zO rfl (iH rfl rfl) ?_))))))))))))))))))))))))))))))))
   refine ay.nil ⟨⟨aa,aa,aa,aa,aa,aa,aa,aa,aa,aa,aa,aa,aa,aa,aa,aa,aa,aa,fun _ _=>.inl rfl,fun _ _=>.inl rfl,aa,aa,aa,aa,aa,aa,aa,aa,aa,aa,aa,aa,aa,aa,aa,aa,aa,aa,aa,aa,aa,aa,aa,aa,aa,aa⟩,?_⟩
   exact zK 5 rfl (WP.ret (Ux (fun g=>by obtain⟨_,_,_,q⟩:=hr g;rw[j7] at q;cases q;exact hB rfl) _ rfl))
  subst hB
  refine ay.oN rfl rfl rfl rfl (aA rfl rfl Vw) (by simp) ?_
  refine zO rfl (kr rfl rfl) (zM rfl (zM rfl (ay.oN rfl rfl rfl rfl (aA rfl rfl aE) (rfl) (zO rfl (kr rfl rfl) (zM rfl (zM rfl (zO rfl (aN rfl rfl rfl (s.dZ (n:=I.length) (j:=0) rfl Ap (by decide) cf)) ?_)))))))
  refine zM rfl (zM rfl (zO rfl (cK (r:=.ptr id off) rfl rfl e1) (zF rfl (Qc _ _) (zL rfl qD (zO rfl (aN rfl rfl rfl (aW aK nL)) (ay.any rfl rfl rfl rfl (OpR.call rfl rfl rfl rfl (Uu (n:=(y.2.length:Int)) hT.w (by omega))) ?_))))))
  rintro v h' ⟨rfl,rfl⟩
  rw[dY]
  by_cases hL:I.length=iC y.2.length
  rotate_left
  ·skip
   refine ay.tE rfl rfl rfl rfl (aA rfl rfl aE) (by simp;omega) ?_
   refine zO rfl (kr rfl rfl) (zM rfl (ay.no (e:=false) rfl rfl rfl rfl (ay.no (e:=false) rfl rfl rfl rfl (ay.no (e:=false) rfl rfl rfl rfl (zO rfl (iH rfl rfl) (zM rfl (ay.no (e:=false) rfl rfl rfl rfl (ay.no (e:=false) rfl rfl rfl rfl (ay.no (e:=false) rfl rfl rfl rfl (ay.no (e:=false) rfl rfl rfl rfl (ay.no (e:=false) rfl rfl rfl rfl (ay.no (e:=false) rfl rfl rfl rfl (ay.no (e:=false) rfl rfl rfl rfl (ay.no (e:=false) rfl rfl rfl rfl (ay.no (e:=false) rfl rfl rfl rfl (zO rfl (iH rfl rfl) ?_))))))))))))))))
   refine ay.nil ⟨⟨aa,aa,aa,aa,aa,aa,aa,aa,aa,aa,aa,aa,aa,aa,aa,aa,aa,aa,fun _ _=>.inr ⟨rfl,⟨_,bK rfl⟩,Gy⟩,eE (.inr ⟨rfl,⟨_,aN rfl rfl rfl (s0.dZ (n:=I.length) (j:=0) rfl Ap (by decide) cf)⟩,bH _ rfl⟩) (.inr ⟨rfl,⟨_,aN rfl rfl rfl (s0.dZ (n:=I.length) (j:=0) rfl Ap (by decide) cf)⟩,bH _ rfl⟩),aa,aa,aa,aa,aa,aa,aa,aa,aa,aa,aa,aa,aa,aa,aa,aa,aa,aa,aa,aa,aa,aa,aa,aa,aa,aa⟩,?_⟩
   exact zK 5 rfl (WP.ret (Ux (fun g=>by obtain⟨_,_,q1,q⟩:=hr g;rw[j7] at q;cases q;exact hL q1) _ rfl))
  rw[j7] at jw hr
  obtain⟨qs,hqs⟩:=jw.hd
  have hn9:iC y.2.length≤18:=by unfold iC;split<;>omega
  have qX:1≤I.length:=by rw[hqs,bF];omega
  have J2:(bG I)[0]?=some (.int .i64 (z:Int)):=by rw[hqs];rfl
  obtain⟨kF,Ut,e3,e4⟩:=gJ (P:=Tryz.prog) s (k:=0) (i:=0) rfl J2 cf jF
  refine ay.oN rfl rfl rfl rfl (aA rfl rfl aE) (by simp;omega) ?_
  refine zO rfl (kr rfl rfl) (zM rfl (zM rfl (zO rfl (aN rfl rfl rfl (s.dZ (n:=I.length) (j:=0) rfl Ap (by decide) cf)) ?_)))
  refine ay.oN rfl rfl rfl rfl (aA rfl rfl bh) (by simp;omega) ?_
  refine zO rfl (kr rfl rfl) (zM rfl (zM rfl (zO rfl (cK (r:=.ptr kF Ut) rfl rfl e3) (zL rfl (e4 _ dN) (zM rfl (zM rfl (zO rfl (cK (r:=.ptr id off) rfl rfl e1) (zF rfl (DG _ _) (zL rfl qN (ay.oN rfl rfl rfl rfl (aA rfl rfl aE) (by simp) ?_))))))))))
  refine zO rfl (kr rfl rfl) ?_
  refine ay.nil ⟨⟨aa,aa,aa,aa,aa,aa,aa,aa,aa,aa,aa,aa,aa,aa,aa,aa,aa,aa,fun _ _=>.inr ⟨rfl,⟨_,bK rfl⟩,Gy⟩,eE (.inr ⟨rfl,⟨_,aN rfl rfl rfl (s0.dZ (n:=I.length) (j:=0) rfl Ap (by decide) cf)⟩,bH _ rfl⟩) (.inr ⟨rfl,⟨_,aN rfl rfl rfl (s0.dZ (n:=I.length) (j:=0) rfl Ap (by decide) cf)⟩,bH _ rfl⟩),aa,aa,aa,aa,aa,aa,aa,aa,aa,aa,aa,aa,aa,aa,aa,aa,aa,aa,aa,aa,aa,aa,aa,aa,aa,aa⟩,?_⟩
  refine zK 7 rfl (WP.block ?_)
  have s:=s.ae [3,0]
  dsimp only[bringA,getA,aI] at s
  have rE:G→seen++I=(dy.take (i+1)).flatten:=fun g=>by
   obtain⟨ps2,q1,_,q⟩:=hr g
   cases q
   rw[hG g,RP q1]
  refine aan (x:=x) (seen:=seen) (ps:=I) (by omega) (by omega) I.length 0 sv _ _ _ (by omega) (by rw[wC,dS];exact s) ⟨rfl,rfl,rfl,rfl,rfl,rfl,rfl,rfl,rfl,rfl,aa⟩ (fun GF E' h' hE s' => ?_) (fun iK E' h' he s' => ?_)
  rotate_left
  ·refine hf tW E' h' (fun g=>iK ?_) vC lS he (((s'.ae [2,2,0]).del 4).del 3)
   rw[rE g]
   have hd:=(hc g).nd
   rw[←wg (i+1) dy,wo] at hd
   exact(List.nodup_append.1 hd).1
  have s:=s'
  refine WP.has hE (zK 3 rfl (zo rfl (aN rfl rfl rfl (s.dZ (n:=I.length) (j:=1) rfl Ap (by decide) cf)) ?_))
  have ea:(((2+seen.length:Nat):Int)+((I.length:Nat):Int))=((2+(seen++I).length:Nat):Int):=by rw[bV];omega
  refine zo rfl (aA (r:=.int .i64 ((2+(seen++I).length:Nat):Int)) rfl rfl ((bC (aB (by omega) (by omega))).trans (by rw[ea]))) ?_
  refine za rfl (zv (zr rfl (zm rfl (zb rfl (by exact bC (aB (by omega) (by omega))) ?_))))
  refine za rfl (zv ?_)
  exact ih (i+1) GF (seen++I) tW _ _ Q (by omega) vC lS (by rw[bV];omega) rE ((((s.ae [0,3,3,1]).del 6).del 5).del 4) ⟨rfl,rfl,rfl,rfl,rfl,rfl,rfl,rfl,aa⟩ hq hf
theorem J5 (hT:WC told)(hR:tG mV N B rv A pg)(hR':tG told N B rv A pg)(hv:En rv)(hX:V_ X 2 lv cs)(hN:2≤N)(xu:N≤2999)(eY:EI N B ε)(hp:fI N R M (pg ε))(hk:Lk N (pg ε) m)(hg:G→mC N (pg ε) dy m∧∀j,j<N→bt M j=(decide (j<2)||decide (j∈dy.flatten)))(s:Sat h (X::jG cs m::A ε::S)):
  Call ⟨Tryz.prog,told⟩ 29 [rv,lv] h fun v h'=>∃bl,v=.bool bl∧(G→bl=true)∧∃af,EI N B af∧Sm N ε af∧Sat h' (X::jG cs m::A af::S):=by
 have hW:=hT.w
 have JA:∀ {af:aX},Sm N ε af→fI N R M (pg af):=fun {af} hs=>by rw[show pg af=pg ε from funext (hR.same hs)];exact hp
 have Wb:(mP (bt M) N).length≤N:=by have:=JZ (M:=M) (N:=N);omega
 have s:=s.ae [2]
 refine Call.of_wp (hW.free _ rfl) Tryz.func29 rfl rfl (zK 7 rfl (zc rfl (Uq hW hR' eY hN hp s) ?_))
 rintro v h ⟨xv,pG,rfl,oQ,jD,s⟩
 have s:=s.ae [1]
 obtain⟨ex,sF⟩:=(JA jD).head
 refine zk 9 rfl (zc rfl (XP hW hR' oQ (by omega) sF hp.rl (by omega) (by omega) s) ?_)
 rintro v h ⟨fM,rfl,jW,jg,s⟩
 have jg:=jD.trans jg
 have s:=(s.m6 (k:=1)).ae [0,2,2,0,0]
 refine zk 20 rfl (WP.block ?_)
 refine aao (x:=xv) (dy:=dy) hT hR hv hX xu (fun g=>(hg g).1) hk m.length 0 .a_ [] fM _ _ _ (by omega) jW jg (fe _) (fun _=>rfl) s ⟨rfl,rfl,rfl,rfl,rfl,rfl,rfl,rfl,aa⟩ (fun GF seen J E' h' I lS kz hG hE s' => ?_) (fun J E' h' g I lS he s'=>⟨aa,_,pO he,false,rfl,fun q=>absurd q g,J,I,lS,s'.del 3⟩)
 have s:=s'
 refine WP.has hE (zK 3 rfl (zB rfl eu (rfl) (zk 2 rfl (zB rfl eu (rfl) (zk 3 rfl (zo rfl (aN rfl rfl rfl (s.dZ (n:=(mP (bt M) N).length) (j:=4) rfl (by rw[gh,eF]) (by decide) cf)) ?_))))))
 refine zm rfl ?_
 by_cases hq:(mP (bt M) N).length=2+seen.length
 ·skip
  refine zB rfl eu (by simp;omega) ?_
  exact zk 3 rfl (WP.ret ⟨aa,_,rfl,true,rfl,fun _=>rfl,J,I,lS,(s.del 4).drop⟩)
 ·skip
  refine zC rfl eu (by simp;omega) ?_
  exact zk 3 rfl (WP.ret ⟨aa,_,rfl,false,rfl,fun g=>absurd (by rw[hG g];exact(hg g).1.used hN (hg g).2) hq,J,I,lS,(s.del 4).drop⟩)
end
theorem mO.same : ∀ {ps:List Nat} {cs:List (List Nat)},mO P ps cs→(∀z∈ps,P' (z:Nat)=P (z:Nat))→mO P' ps cs:=by
 intro ps
 induction ps with
 |nil=>intro cs h _;cases cs with
  |nil=>exact h
  |cons c cs=>exact h
 |cons p ps I=>intro cs h hs;cases cs with
  |nil=>exact h
  |cons c cs=>exact⟨by rw[hs p bZ];exact h.1,I h.2 fun z J=>hs z (b8 _ J)⟩
theorem mC.same {m:List (Int×List Nat)}(h:mC N P dy m)(hs:∀z∈dy.flatten,P' (z:Nat)=P (z:Nat)): mC N P' dy m :=
 ⟨h.len,fun i ps x I J=>⟨(h.ch i ps x I J).hd,(h.ch i ps x I J).len,(h.ch i ps x I J).ch.same fun z hz=>hs z (List.mem_flatten.2 ⟨ps,bD I,hz⟩),(h.ch i ps x I J).sz⟩,h.nd,h.lt⟩
theorem mC.more {m:List (Int×List Nat)}{x:Int×List Nat}(h:mC N P dy m)(hc:HC P ps x)(hn:ps.Nodup)(hd:∀z∈ps,z∉dy.flatten)(hl:∀z∈ps,2≤z∧z<N): mC N P (dy++[ps]) (m++[x]):=by
 have hlen:=h.len
 refine⟨by grind,fun i qs y J h2 => ?_,?_,?_⟩
 ·by_cases hi:i<dy.length
  ·rw[tY hi] at J
   rw[tY (by omega)] at h2
   exact h.ch i qs y J h2
  grind
 ·rw[wo,show[ps].flatten=ps by simp]
  exact List.nodup_append.2 ⟨h.nd,hn,fun a ha b hb e=>hd b hb (e ▸ ha)⟩
 ·intro z I
  rw[wo,show[ps].flatten=ps by simp] at I
  rcases List.mem_append.1 I with I|I
  ·exact h.lt z I
  ·grind
theorem mC.wrote {m:Nat}{L:List (Int×List Nat)}(h:mC N P dy L)(hp:fI N R M P)(hb:∀j,j<N→bt M j=(decide (j<2)||decide (j∈dy.flatten)))(hg:Cf N R M P ((cM M N).take m) M' P')
 (hm:iC b.length=m)(V8:m≤(cM M N).length)(hc:mO P' ((cM M N).take m) (chunks b m))(m7:b.length≤8192):
  mC N P' (dy++[(cM M N).take m]) (L++[(((((cM M N).take m).headD 0:Nat):Int),b)])∧∀j,j<N→bt M' j=(decide (j<2)||decide (j∈(dy++[(cM M N).take m]).flatten)):=by
 have I:∀z∈(cM M N).take m,2≤z∧z<N∧z∉dy.flatten:=fun z J=>by
  grind[si]
 refine⟨(h.same fun z J=>hg.same z (by have:=h.lt z J;omega) fun q=>(I z q).2.2 J).more ⟨rfl,by grind,by grind,m7⟩ (List.Nodup.sublist (List.take_sublist _ _) (Eo M N)) (fun z J=>(I z J).2.2) (fun z J=>⟨(I z J).1,(I z J).2.1⟩),fun j hj => ?_⟩
 rw[hg.bits,hb j hj,wo,show[(cM M N).take m].flatten=(cM M N).take m by simp,Bool.or_assoc]
 grind
theorem X1 {a b:PM}{x:Int×List Nat}(I:(aL.bY u x.2).p a b): ∀ {m:List (Int×List Nat)} {l:List V},(jG l m).p a b→(jG (l++[.int .i64 x.1,u]) (m++[x])).p a b:=by
 intro m
 induction m with
 |nil=>intro l h;rcases l with _|⟨p,_|⟨q,l⟩⟩<;>first|exact⟨⟨rfl,I⟩,aa⟩|exact h.elim
 |cons y m J =>
  intro l h
  rcases l with _|⟨p,_|⟨q,l⟩⟩<;>first|exact h.elim|exact⟨h.1,J h.2⟩
theorem OK {v:V}{p:Int}(I:v.cells=[v]): buildV Tryz.prog 58 [(0,.int .i64 p),(1,v)]=some (.agg [.int .i64 p,v]):=by
 rw[acq]
 simp only[fillV,I]
 rfl
theorem G2 : ∃i,Tryz.prog.info? 58=some i∧i.size=2∧i.bytes=32 :=
 ⟨_,(show Tryz.prog.info? 58=some ((Tryz.prog.info? 58).getD default) by kernel_rfl),by kernel_rfl,by kernel_rfl⟩
theorem RT {m:List (Int×List Nat)}{x:Int×List Nat}(s:Sat h (.bY tv x.2::.arr 2 hv cs::jG cs m::S))(hl:m.length≤1048576):
  ∃bv I w J,buildSliceV Tryz.prog h 56 1 [(0,.agg [.int .i64 x.1,tv])]=some (bv,I)∧appendV Tryz.prog I #[56,56] hv bv=some (w,J)∧Sat J (.arr 2 w (cs++[.int .i64 x.1,tv])::jG (cs++[.int .i64 x.1,tv]) (m++[x])::S):=by
 have oO:=(s.aD (k:=0) rfl (c8 _ _)).cells
 have je:=xz s (k:=2) rfl
 obtain⟨i1,iu,gW,pz⟩:=G2
 obtain⟨bv,I,e1,s1⟩:=jB (P:=Tryz.prog) (k:=2) (x:=.agg [.int .i64 x.1,tv]) s mA IJ Al rfl (by decide) (by decide) rfl (by simp only[V.cells,iT,iU,oO.2];rfl)
 obtain⟨w,J,e2,s2⟩:=gv (s1.ae [2,0]) mA iu IJ gW (by omega) rfl (by decide) (by simp only[V.cells,bF,cG];omega)
 have s3:=(s2.del 1).ae [1,1,0]
 have s4:=s3.two (C:=jG (cs++[.int .i64 x.1,tv]) (m++[x])) (aV.bY _ _) (aV.jG _ _) fun a b q1 q2=>X1 q1 q2
 exact⟨bv,I,w,J,e1,e2,s4.ae [1]⟩
def slT (v:V): V:=match v with
 |.sl id off len (.exact c)=>.sl id (cond (Nat.beq c 1) off (off+1*2)) (len-1) (.exact (c-1))
 |.sl id off len (.rest _ alt)=>.sl id (off+1*2) (len-1) (.rest 2 (cond (Nat.beq 1 0) alt (cond (Nat.blt 1 len) (off+1*2) off)))
 |v=>v
section
variable {P:Program} {m off:Nat} {v c:V}
theorem Uy (a:rN (T.get h.tr) 2 v cs)(J:2≤cs.length)(hu:P.underlying t=some (.slice e))(I:bN P e=some 2): sliceV P h t v (some 1) none none=some (slT v):=by
 rcases a.2 with⟨rfl,rfl⟩|⟨id,n,cap,N,rest,rfl,hg,e1,e2,_,e4⟩
 ·grind
 ·cases cap with
  |exact c =>
   simp only[sliceV,hu,I,wz,iD,slT]
   grind[bg]
  |rest q alt =>
   simp only[sliceV,hu,I,wz,iD,slT]
   grind[Nat.beq,bg]
theorem aap (a:rN (T.get h.tr) k v cs): ∃n,cs.length=n*k∧srcV h k v=some (cs,n):=by
 rcases a.2 with⟨rfl,rfl⟩|⟨id,n,cap,N,rest,rfl,J,I,e2,_,e4⟩
 ·exact⟨0,by simp,rfl⟩
 ·refine⟨n,I,?_⟩
  simp only[srcV]
  rw[uS J (by grind) (by omega),←I,gV,nt rfl]
  rfl
theorem X2 (a:rN (T.get h.tr) 2 v cs)(J:2≤cs.length): ∃n,(cs.drop 2).length=n*2∧srcV h 2 (slT v)=some (cs.drop 2,n):=by
 rcases a.2 with⟨rfl,rfl⟩|⟨id,n,cap,N,rest,rfl,I,e1,e2,e3,e4⟩
 ·grind
 ·have hlen:(cs.drop 2).length=(n-1)*2:=by grind
  have key:∀off,(off=2∨(off=0∧n=1))→rdN h id off ((n-1)*2)=some (cs.drop 2):=fun off ho=>by
   rw[uS I (by grind) (by omega)]
   grind[List.drop_eq_nil_of_le]
  refine⟨n-1,hlen,?_⟩<;>grind[slT,srcV,eo]
end
theorem J6 (s:Sat h (pt id (.cells 0 [] false)::S))(I:srcV h 2 sv=some (ds,n))(hn:ds.length=n*2)(J:ds.all storable=true)(hl:ds.length≤1048576):
  ∃w h',appendV Tryz.prog h #[56,56] (.sl id 0 0 (.exact 0)) sv=some (w,h')∧Sat h' (.arr 2 w ds::S):=by
 obtain⟨i1,iu,gW,pz⟩:=G2
 have hz:=IJ
 unfold appendV
 simp only[mA,iu,hz,gW,pz,I]
 by_cases hm:n=0
 ·rw[oS hm,aj]
  refine⟨_,_,rfl,?_⟩
  obtain rfl:ds=[]:=nf (by omega)
  exact XI s
 ·rw[eo hm,aY]
  have hb:Nat.ble (0+n) 0=false:=by grind[bg]
  have hgw:kT (0+n) 32=true:=by
   grind[kT,bg]
  have hg0:=s.row (k:=0) rfl
  have jw:rdN h id 0 (0*2)=some []:=by rw[uS hg0 rfl (by omega)];rfl
  rw[hb,aY,hgw,aj,jw]
  refine⟨_,_,rfl,?_⟩
  exact(s.drop.new (.cells ((0+n)*2) ([]++ds) false)).gK fun a r B1=>⟨J,.inr ⟨h.next,0+n,.rest 2 0,(0+n)*2,[],rfl,by rw[dS];exact B1,by omega,by grind,rfl,rfl,rfl,rfl,by omega⟩⟩
theorem Sat.abH {x:Int×List Nat}{m:List (Int×List Nat)}(s:Sat h (jG cs (x::m)::S)): Sat h (jG (cs.drop 2) m::jG cs (x::m)::S) :=
 (s.dup (aV.jG _ _)).gK fun a b k=>by
  rcases cs with _|⟨c,_|⟨d,cs⟩⟩
  ·exact k.elim
  ·exact k.elim
  ·exact k.2
structure RU (N:Nat)(R M:List Nat)(P:Int→List Nat)(ps:List Nat)(M':List Nat)(P':Int→List Nat): Prop where
 Cg:fI N R M' P'
 bits:∀j,bt M' j=(bt M j && !decide (j∈ps))
 same:∀j:Nat,j≠1→P' j=P j
section
variable {told:cR} {p:Nat} {sm:aX→aX→Prop} {v:V} {cs:List (List Nat)}
noncomputable def cfL : Code:=cN [1,1,1,0,1,0,0] ((Tryz.f38.body).getD .skip)
theorem X3 (hT:W told)(hM:Mo told N lv dd sm)(vi:ps.length≤3000)(iK:ps.Nodup)(mN:∀z∈ps,2≤z∧z<N∧bt M z=true): ∀(d k:Nat) (M':List Nat) (ε:aX) (now:List (Int×List Nat)) (h:H) (E:List (Nat×V)) (Q:Ex→List (Nat×V)→H→Prop),k+d=ps.length→lv ε→NW N now→RU N R M P0 (ps.take k) M' (pgG now ε) →
  Sat h (.arr 1 wv (bG ps)::GA g a p q r data aC now ε::S)→Has E [(0,.ptr g 0),(22,wv),(23,.int .i64 (ps.length:Int)),(24,.int .i64 (k:Int))] →
  (∀M2 af bL E' h',lv af→sm ε af→NW N bL→RU N R M P0 ps M2 (pgG bL af)→Sat h' (.arr 1 wv (bG ps)::GA g a p q r data aC bL af::S)→Q (.exit 0) E' h')→(∀E' h',look E' 4=some (.int .i64 9)→y6 N g a p q r data aC dd (.arr 1 wv (bG ps)::S) h'→Q .ret E' h')→WP ⟨Tryz.prog,told⟩ 35 (.loop cfL) E h Q:=by
 intro d
 induction d with
 |zero =>
  intro k M' ε now h E Q hk J hw I s hE hq hd
  refine WP.loop (WP.has hE (zg rfl (zC rfl bh (by simp;omega) ?_)))
  refine zk 3 rfl (WP.exit ?_)
  rw[gj (by omega)] at I
  exact hq M' ε now _ _ J (hM.rf _) hw I s
 |succ d ih =>
  intro k M' ε now h E Q hk J hw I s hE hq hd
  have hz:ps[k]?=some (ps[k]'(by omega)):=bx _
  generalize (ps[k]'(by omega))=z at hz
  have Us:=mN z (bD hz)
  have J1:(bG ps)[k]?=some (.int .i64 (z:Int)):=by rw[bG,qf,hz];rfl
  obtain⟨id,off,e1,e2⟩:=gJ (P:=Tryz.prog) s (k:=0) (i:=k) rfl J1 cf jF
  have JP:ps.take (k+1)=ps.take k++[z]:=by rw[wq,hz];rfl
  have ac2:z∉ps.take k:=fun q=>by
   have e3:ps=ps.take k++z::ps.drop (k+1):=by
    obtain⟨h1,h2⟩:=List.getElem?_eq_some_iff.1 hz
    rw[←h2,List.getElem_cons_drop,wg]
   rw[e3] at iK
   exact(List.nodup_append.1 iK).2.2 z q z bZ rfl
  have hbz:bt M' z=true:=by rw[I.bits,Us.2.2,gF ac2];rfl
  have Ro:=I.Cg.ml
  have qA:=I.Cg.n2
  refine WP.loop (WP.has hE (zg rfl (zB rfl bh (by simp;omega) ?_)))
  refine zk 5 rfl (WP.block (zg rfl (zo rfl (cK (r:=.ptr id off) rfl rfl e1) (zl rfl (e2 _ dN) (zk 6 rfl (zc rfl (XR (i:=(z:Int)) hT hM J hw I.Cg (s.ae [1])) ?_))))))
  rintro v h (⟨rfl,af,bL,pn,s,nW⟩|⟨af,bL,rq,hs,pn,_,s,⟨H_,_⟩|⟨_,_,_,rfl,MQ,oP⟩⟩)
  ·skip
   refine za rfl (zv (zg rfl (zm rfl (zt rfl (aA rfl rfl aE) (by decide) ?_))))
   refine zv (zi rfl (zg rfl (zk 2 rfl (zv (WP.ret ?_)))))
   exact hd _ _ rfl ⟨af,bL,pn,s,nW⟩
  ·exact absurd ⟨by omega,by omega,by rw[dY];exact hbz⟩ H_
  rw[dY] at MQ
  have s:=s.ae [1,0]
  dsimp only[aI,bringA,getA] at s
  refine za rfl (zv (zg rfl (zm rfl (zh rfl (aA rfl rfl aE) (rfl) (zv (zj rfl (WP.skip (zr rfl (zb rfl (by exact bC (aB (by omega) (by omega))) ?_)))))))))
  refine zm rfl (zv ?_)
  refine ih (k+1) _ af bL _ _ Q (by omega) rq pn ⟨MQ,fun j => ?_,fun j hj=>by rw[oP j (by omega)];exact I.same j hj⟩ s ⟨rfl,rfl,rfl,rfl,aa⟩ (fun M2 fM ov E2 h2 g1 g2 g3 g4 g5=>hq M2 fM ov E2 h2 g1 (hM.tr hs g2) g3 g4 g5) hd
  rw[VX (by omega),I.bits,JP]
  by_cases hj:j=z
  ·subst hj
   rw[gn (List.mem_append.2 (.inr (List.mem_singleton.2 rfl)))]
   simp
  ·rw[show decide (j∈ps.take k++[z])=decide (j∈ps.take k) from decide_eq_decide.2 ⟨fun q=>(List.mem_append.1 q).resolve_right fun q2=>hj (List.mem_singleton.1 q2),fun q=>List.mem_append.2 (.inl q)⟩]
   simp[hj]
theorem X4 (hT:WC told)(hM:Mo told N lv dd sm)(hM0:Mo mV N lv dd sm)(hN:N≤3000){qs:List Nat}(hP0:P0=pgG now ε)(I:ps=z::qs)(eY:lv ε)(hw:NW N now)(hp:fI N R M (pgG now ε))(hc:mO (pgG now ε) ps cs)(iK:ps.Nodup)(mN:∀z∈ps,2≤z∧z<N∧bt M z=true)(hl:ps.length≤1000)(qP:(flatL cs).length≤1048576)(s:Sat h (GA g a p q r data aC now ε::S)):
  Call ⟨Tryz.prog,told⟩ 38 [.ptr g 0,.int .i64 (z:Int)] h fun v h'=>(v=.int .i64 9∧y6 N g a p q r data aC dd S h')∨∃M' af bL,v=.int .i64 0∧lv af∧sm ε af∧NW N bL∧RU N R M P0 ps M' (pgG bL af)∧Sat h' (GA g a p q r data aC bL af::S):=by
 have hW:=hT.w
 subst hP0
 refine Call.of_wp (hW.free _ rfl) Tryz.func38 rfl rfl (zK 7 rfl (zo rfl (qS rfl (mki_of lu rfl)) (zm rfl (zc rfl (abG hT (hM0.gr hw) ⟨rfl,rfl,by simp[V.beq]⟩ (by omega) eY (I ▸ hc) (fun x hx=>(mN x (I ▸ hx)).2.1) (by rw[I,bF] at hl;omega) s) ?_))))
 rintro v h (⟨wv,uv,J,rfl,oQ,jD,s⟩|⟨J,rfl,nW,s⟩)
 rotate_left
 ·skip
  refine zk 12 rfl (zB rfl aE (by decide) ?_)
  exact zk 7 rfl (WP.ret ⟨aa,_,rfl,.inl ⟨rfl,J,now,hw,s,nW⟩⟩)
 rw[←I] at s
 have hlen:(bG ps).length=ps.length*1:=by rw[gh,eF]
 refine zk 12 rfl (zC rfl aE (rfl) (zk 7 rfl (zo rfl (aN rfl rfl rfl (s.dZ (n:=ps.length) (j:=0) rfl hlen (by decide) cf)) ?_)))
 have s:=s.ae [0,1]
 refine zk 2 rfl (WP.block ?_)
 refine X3 (M:=M) (R:=R) (P0:=pgG now ε) hW hM (by omega) iK mN ps.length 0 M J now _ _ _ (by omega) oQ hw ⟨by rw[hM.pgG jD];exact hp,fun j=>by simp,fun j _=>by rw[hM.pgG jD]⟩ s ⟨rfl,rfl,rfl,rfl,aa⟩ (fun M2 fM ov E' h' jW jg kG y7 s' => ?_) (fun E' h' e1 ⟨af,bL,q1,q2,q3⟩=>⟨aa,_,pO e1,.inl ⟨rfl,af,bL,q1,(q2.del 2).del 1,q3⟩⟩)
 have s:=s'
 exact WP.has (F:=[]) aa (zK 4 rfl (WP.ret ⟨aa,_,rfl,.inr ⟨M2,fM,ov,rfl,jW,hM.tr jD jg,kG,y7,((s.ae [1]).del 2).del 1⟩⟩))
end
theorem Uz {k:Int}{m:Nat}(hm:m<65536): ∃r:Nat,r≤m∧∀ {P:Program} {h:H} {t:TypeId} {x y:Operand},binV P h .and t x y (.int .i64 k) (.int .i64 (m:Int))=some (.int .i64 (r:Int)):=by
 refine⟨Nat.land ((k%(2^(IntKind.i64).bits:Int)).toNat) m,Nat.and_le_right,fun {P h t x y} => ?_⟩
 have I:(((m:Nat):Int)%(2^(IntKind.i64).bits:Int)).toNat=m:=by simp only[IntKind.bits];omega
 simp only[binV,ikBeq,aj,intV,bitsV,I]
 have hle:Nat.land ((k%(2^(IntKind.i64).bits:Int)).toNat) m≤m:=Nat.and_le_right
 rw[wrap_i64 (n:=Nat.land ((k%(2^(IntKind.i64).bits:Int)).toNat) m) (by omega)]
def RV (i:Nat): List Nat:=(List.range (i-2)).map (· + 2)
theorem mC.dF {x:Int×List Nat}{m:List (Int×List Nat)}(h:mC N P (ps::dy) (x::m))(hb:∀j,j<N→bt M j=(decide (j<2)||decide (j∈(ps::dy).flatten)))(hf:RU N R M P ps M' P'):
  mC N P' dy m∧∀j,j<N→bt M' j=(decide (j<2)||decide (j∈dy.flatten)):=by
 have iK:=h.nd
 have I:∀z,z∈dy.flatten→z∈(ps::dy).flatten:=fun z J=>by grind
 refine⟨⟨by have:=h.len;simpa using this,fun i qs y h1 h2 => ?_,(List.nodup_append.1 iK).2.1,fun z J=>h.lt z (I z J)⟩,fun j hj => ?_⟩
 ·have hc:=h.ch (i+1) qs y (by grind) (by grind)
  refine⟨hc.hd,hc.len,hc.ch.same fun z J=>hf.same z ?_,hc.sz⟩
  have:=h.lt z (I z (List.mem_flatten.2 ⟨qs,bD h1,J⟩))
  omega
 ·rw[hf.bits,hb j hj]
  by_cases h2:j<2
  ·have:j∉ps:=fun q=>by
    have:=h.lt j (by grind)
    omega
   simp[h2,this]
  grind
section
variable {told:cR} {p:Nat}
theorem G3 (I:W told)(s:Sat h (GA g a p q r data aC now ε::S)): Call ⟨Tryz.prog,told⟩ 33 [.ptr g 0] h fun v h'=>v=.bf []∧Sat h' (SA a p q r .b_ data aC ε::S):=by
 have s:=bn.1 s
 refine(TV I s).mono ?_
 rintro v h' ⟨rfl,s⟩
 exact⟨rfl,bn.2 s.drop⟩
end
def roH (k:Nat)(v:V)(cs:List V): aL:=.xs fun o:Option (Nat×Nat×Cap×Nat×List V)=>match o with
 |none=>.pu (cs.all storable=true∧v=.a_∧cs=[])
 |some (id,n,cap,N,rest)=>.an (.ro id (.cells N (cs++rest) false)) (.pu (cs.all storable=true∧v=.sl id 0 n cap∧cs.length=n*k∧cs.length+rest.length=N∧rest.all storable=true ∧
  (match cap with|.exact c=>N=c*k∧n≤c|.rest e alt=>e=k∧alt=0∧rest=[]∧1≤n)))
theorem aV.roH (k:Nat)(v:V)(cs:List V): aV (Am.roH k v cs):=aV.xs fun o=>by
 grind[aV.pu,aV.an,aV.ro]
theorem vc (k:Nat)(v:V)(cs:List V): V_ (roH k v cs) k v cs:=fun m r h=>by
 obtain⟨_|⟨id,n,cap,N,rest⟩,h⟩:=h
 ·exact .inr ⟨h.1,.inl h.2⟩
 ·exact .inr ⟨h.2.1,.inr ⟨id,n,cap,N,rest,h.2.2.1,h.1,h.2.2.2⟩⟩
section
variable {v:V} {m:List (Int×List Nat)} {xs:List (List V×List (Int×List Nat))} {x:List V×List (Int×List Nat)}
theorem Sat.G4 (s:Sat h (.arr k v cs::S)): Sat h (roH k v cs::S):=by
 obtain⟨m,r,J,h2,h3,a,b,g1,g2,g3,⟨I,g4⟩,g5⟩:=s.ok
 rcases g4 with⟨e1,e2⟩|⟨id,n,cap,N,rest,e,hg,q⟩
 ·exact g_.2 ⟨none,s.drop.gD ⟨I,e1,e2⟩⟩
 ·have s1:Sat h (pt id (.cells N (cs++rest) false)::S):=⟨s.wf,m,r,J,h2,h3,a,b,g1,g2,g3,hg,g5⟩
  exact g_.2 ⟨some (id,n,cap,N,rest),s1.freeze.gK fun a b hq=>⟨hq,I,e,q⟩⟩
def G5 (v:V)(x:List V×List (Int×List Nat)): aL:=.an (roH 2 v x.1) (jG x.1 x.2)
theorem aV.G5 (v:V)(x:List V×List (Int×List Nat)): aV (Am.G5 v x):=aV.an (aV.roH _ _ _) (aV.jG _ _)
abbrev nI (vs:List V)(xs:List (List V×List (Int×List Nat))): aL:=each G5 vs xs
theorem J7 (s:Sat h (nI vs xs::S))(I:xs[i]?=some x): ∃v,vs[i]?=some v∧Sat h (roH 2 v x.1::jG x.1 x.2::nI vs xs::S):=by
 obtain⟨v,hv,s⟩:=MO aV.G5 s I
 exact⟨v,hv,((s.dup (aV.G5 _ _)).gK fun _ _ k=>k.1).ae [1] |>.gK (fun _ _ k=>k.2) |>.ae [1]⟩
theorem X5 (s:Sat h (nI vs xs::roH 2 v x.1::jG x.1 x.2::S)): Sat h (nI (vs++[v]) (xs++[x])::S):=by
 have s:=(s.ae [1,1,0]).two (C:=G5 v x) (aV.roH _ _ _) (aV.jG _ _) fun _ _ a b=>⟨a,b⟩
 exact(s.ae [1]).two (aV.each aV.G5 _ _) (aV.G5 _ _) fun _ _ a b=>To a ⟨b,aa⟩
theorem FT (s:Sat h S)(I:getA S j=some (nI vs xs)): vs.length=xs.length:=by
 obtain⟨a,b,q1,q2,J⟩:=s.at I
 exact pT J
end
theorem RW : ∃i,Tryz.prog.info? 56=some i∧i.size=1∧i.bytes≤4096 :=
 ⟨_,(show Tryz.prog.info? 56=some ((Tryz.prog.info? 56).getD default) by kernel_rfl),by kernel_rfl,of_decide_eq_true (by kernel_rfl)⟩
theorem RX {av:V}(s:Sat h (.arr 1 av vs::S))(hc:hv.cells=[hv])(fX:storable hv=true)(hl:vs.length≤1048576):
  ∃bv I w J,buildSliceV Tryz.prog h 83 1 [(0,hv)]=some (bv,I)∧appendV Tryz.prog I #[83,83] av bv=some (w,J)∧Sat J (.arr 1 w (vs++[hv])::S):=by
 obtain⟨i1,iu,gW,pz⟩:=RW
 obtain⟨bv,I,e1,s1⟩:=jB (P:=Tryz.prog) (k:=1) (x:=hv) s ry Ti II rfl (by decide) (by decide) (by grind) (by grind)
 rw[hc] at s1
 obtain⟨w,J,e2,s2⟩:=gv (s1.ae [1,0]) ry iu Ti gW pz rfl (by decide) (by grind)
 exact⟨bv,I,w,J,e1,e2,s2.del 1⟩
theorem Lj : ∀(k n:Nat),n<128^(k+1)→digits (k+1) n=digits k n:=by
 intro k
 induction k with
 |zero=>intro n I;rw[jO (by simpa using I),jO (by simpa using I)]
 |succ k J =>
  intro n I
  by_cases h:n<128
  ·rw[jO h,jO h]
  ·have hd:n/128<128^(k+1):=by
    rw[Nat.div_lt_iff_lt_mul (by omega)]
    rw[wF] at I
    exact I
   rw[digits,ak h,J _ hd,digits,ak h]
set_option maxRecDepth 10000 in
theorem aaq (h:n<256): Nat.land n 127=n%128:=by
 have:∀m:Fin 256,Nat.land m.1 127=m.1%128:=by decide
 exact this ⟨n,h⟩
theorem Ll (h:n<256): intV .and .u8 (n:Int) 127=some (.int .u8 ((n%128:Nat):Int)):=by
 have I:((n:Int)%(2^(IntKind.u8).bits:Int)).toNat=n:=by simp only[IntKind.bits];omega
 have J:((127:Int)%(2^(IntKind.u8).bits:Int)).toNat=127:=by simp[IntKind.bits]
 simp only[intV,bitsV,I,J,aaq h,wrap_u8]
 congr 2
 omega
theorem Lm (I:n<18446744073709551616): convV Tryz.prog h 5 43 (.int .u8 (n:Int))=some (.int .u64 (n:Int),h):=by
 simp only[convV,Tryz.underlying5,c_,wrap_u64 I]
theorem Ln (I:n<9223372036854775808): convV Tryz.prog h 5 3 (.int .u8 (n:Int))=some (.int .i64 (n:Int),h):=by
 simp only[convV,Tryz.underlying5,bT,wrap_i64 I]
theorem J8 (I:n<9223372036854775808): convV Tryz.prog h 43 3 (.int .u64 (n:Int))=some (.int .i64 (n:Int),h):=by
 simp only[convV,c_,bT,wrap_i64 I]
theorem J9 (i:Nat): (128:Nat)^i=2^(7*i):=by rw[Nat.pow_mul]
theorem ac3 {d:Nat}(hd:d<128)(hi:i≤8): shiftV .shl .u64 (d:Int) ((7*i:Nat):Int)=some (.int .u64 ((d*128^i:Nat):Int)):=by
 have J:(128:Nat)^i≤128^8:=t_ (by omega) hi
 have I:d*128^i<18446744073709551616:=by
  have:d*128^i≤127*128^8:=rK (by omega) J
  omega
 simp only[shiftV,IntKind.bits,dY]
 rw[show min (7*i) 64=7*i by omega,show decide (((7*i:Nat):Int)<0)=false by simp;omega,aY]
 have:(d:Int)*2^(7*i)=((d*128^i:Nat):Int):=by rw[J9];push_cast;rfl
 simp only[this,wrap_u64 I]
theorem X6 {d:Nat}(I:a<128^i)(hd:d<128)(hi:i≤8): intV .or .u64 (a:Int) ((d*128^i:Nat):Int)=some (.int .u64 ((a+d*128^i:Nat):Int)):=by
 have J:(128:Nat)^i≤128^8:=t_ (by omega) hi
 have hm:d*128^i≤127*128^8:=rK (by omega) J
 have h1:((a:Int)%(2^(IntKind.u64).bits:Int)).toNat=a:=by simp only[IntKind.bits];omega
 have h2:((d*128^i:Nat):Int)%(2^(IntKind.u64).bits:Int)=((d*128^i:Nat):Int):=by simp only[IntKind.bits];omega
 have h3:Nat.lor a (d*128^i)=a+d*128^i:=by
  have e:d*128^i=2^(7*i)*d:=by rw[←J9,wG]
  have:=LH (i:=7*i) (b:=a) (by rw[←J9];exact I) d
  rw[←e] at this
  rw[Nat.add_comm a,this]
  exact Nat.or_comm _ _
 simp only[intV,bitsV,h1,h2,dY,h3]
 rw[wrap_u64 (by omega)]
section
variable {told:cR} {c:Nat} {v w:V} {m:List Nat}
theorem mW (I:W told): Call ⟨Tryz.prog,told⟩ 203 [.bool true] h fun v h'=>v=.bf []∧h'=h:=by
 refine Call.of_wp (I.free _ rfl) Tryz.func203 rfl rfl (zg rfl (zm rfl (zh rfl (er rfl rfl) (rfl) (zv (zj rfl (WP.skip ?_))))))
 exact⟨aa,_,rfl,rfl,rfl⟩
theorem UA (J:W told){x:Nat}(s:Sat h (pt c (.cells 1 [v] false)::X::S))(hX:cL X (cQ v (x::l))):
  Call ⟨Tryz.prog,told⟩ 199 [.ptr c 0] h fun r h'=>r=.int .u8 (x:Int)∧∃u,cL X (cQ u l)∧Sat h' (pt c (.cells 1 [u] false)::X::S):=by
 have hv:=s.aD (k:=1) rfl hX
 obtain⟨id,off,e1,e2⟩:=eU hv (i:=0) (b:=x) rfl
 have I:=fu hv (a:=1) (by simp)
 have hu:=I.2.1.cells
 refine Call.of_wp (J.free _ rfl) Tryz.func199 rfl rfl (zK 8 rfl (zY s 0 mo bE rfl (zo rfl (aN rfl rfl rfl (aW aK hv)) (zB rfl gA (by simp) ?_))))
 refine zc rfl (mW J) ?_
 rintro r h' ⟨rfl,rfl⟩
 refine zk 5 rfl (zY s 0 mo bE rfl (zo rfl (cK (r:=.ptr id off) rfl rfl e1) (zl rfl e2 (zk 7 rfl (zY s 0 mo bE rfl (zo rfl (cH (p:=some (.int .i64 1)) (q:=none) (m:=none) (p':=some 1) (q':=none) (m':=none) rfl rfl rfl rfl rfl rfl rfl I.1) (zn rfl (zf rfl (mo _ _) (zS rfl (s.eH (k:=0) rfl gU rfl (by decide) hu.1 hu.2) ?_)))))))))
 rintro h s
 exact zk 6 rfl (WP.ret ⟨aa,_,rfl,rfl,_,rU hX (by simp),s⟩)
def Cu (h:H)(c:Nat)(X:aL)(S:List aL)(l:List Nat): Prop:=∃v,cL X (cQ v l)∧Sat h (pt c (.cells 1 [v] false)::X::S)
theorem FU (I:W told){x:Nat}(J:Cu h c X S (x::l)): Call ⟨Tryz.prog,told⟩ 199 [.ptr c 0] h fun r h'=>r=.int .u8 (x:Int)∧Cu h' c X S l:=by
 obtain⟨v,hX,s⟩:=J
 exact(UA I s hX).mono fun r h' ⟨e,u,hU,s'⟩=>⟨e,u,hU,s'⟩
noncomputable def nbX : Code:=cN [1,1,0,0] ((Tryz.f200.body).getD .skip)
noncomputable def Wc : Code:=unblk (leftC nbX)
noncomputable def nbC : Code:=cX (cX (cX Wc))
theorem Ch (hT:W told){x:Nat}(hx:x<256)(hi:i≤8)(ha:acc<128^i)
 (hc:Cu h c X S (x::l))(h0:look E 0=some (.ptr c 0))(h2:look E 2=some (.int .u64 (acc:Int)))(I:look E 3=some (.int .i64 (i:Int)))
 (hq:∀E' h',look E' 0=some (.ptr c 0)→look E' 2=some (.int .u64 ((acc+x%128*128^i:Nat):Int))→look E' 3=some (.int .i64 (i:Int))→look E' 4=some (.int .u8 (x:Int))→Cu h' c X S l→WP ⟨Tryz.prog,told⟩ 38 nbC E' h' Q):
  WP ⟨Tryz.prog,told⟩ 38 Wc E h Q:=by
 refine WP.seq (WP.region rfl ?_)
 refine zo rfl (bK h0) ?_
 refine zc rfl (FU hT hc) (fun v h₁ ⟨e1,c1⟩ => ?_)
 subst e1
 refine ax.op rfl rfl rfl (fD rfl) (ax.nil ?_)
 refine WP.seq (WP.region rfl ?_)
 refine zo rfl (bK I) (zo rfl (aA (v:=.int .i64 (i:Int)) (u:=.int .i64 9) (r:=.bool true) rfl rfl (by simp only[binV,ikBeq,aj,intV];congr 2<;>simp<;>omega)) ?_)
 refine zk 8 rfl ?_
 refine zc rfl (mW hT) (fun v J ⟨e2,sM⟩=>ax.nil ?_)
 subst e2;subst sM
 refine WP.seq (WP.region rfl ?_)
 refine zo rfl (bK h2) (zm rfl (zo rfl (aA (v:=.int .u8 (x:Int)) (u:=.int .u8 127) rfl rfl (by simp only[binV,ikBeq,aj];exact Ll hx)) ?_))
 refine zo rfl (cJ (v:=.int .u8 ((x%128:Nat):Int)) rfl (Lm (by omega))) ?_
 refine zo rfl (bK I) ?_
 refine ax.op rfl rfl rfl (aA (v:=.int .i64 7) (u:=.int .i64 (i:Int)) (r:=.int .i64 ((7*i:Nat):Int)) rfl rfl (by
  simp only[binV,ikBeq,aj,intV]
  rw[show(7:Int)*(i:Int)=((7*i:Nat):Int) by push_cast;rfl,wrap_i64 (by omega)])) ?_
 refine zo rfl (aA (v:=.int .u64 ((x%128:Nat):Int)) (u:=.int .i64 ((7*i:Nat):Int)) rfl rfl (by simp only[binV];exact ac3 (by omega) hi)) ?_
 refine zo rfl (aA (v:=.int .u64 (acc:Int)) rfl rfl (by simp only[binV,ikBeq,aj];exact X6 ha (by omega) hi)) ?_
 refine ax.op rfl rfl rfl (fD rfl) (ax.nil ?_)
 exact hq _ _ h0 rfl I rfl c1
set_option maxRecDepth 4000 in
theorem Er (hT:W told){m:Nat}(hi:i≤8)(hm:m<128)(hz:i=0∨0<m)(ha:acc<128^i)
 (hc:Cu h c X S (m::l))(h0:look E 0=some (.ptr c 0))(h2:look E 2=some (.int .u64 (acc:Int)))(h3:look E 3=some (.int .i64 (i:Int)))
 (hq:∀E' h',look E' 2=some (.int .u64 ((acc+m*128^i:Nat):Int))→Cu h' c X S l→Q .ret E' h'): WP ⟨Tryz.prog,told⟩ 38 (.loop nbX) E h Q:=by
 refine WP.loop (WP.seq (WP.block ?_))
 refine Ch hT (x:=m) (by omega) hi ha hc h0 h2 h3 (fun E1 h₁ q0 q2 q3 q4 c1 => ?_)
 rw[rJ hm] at q2
 refine WP.seq (WP.region rfl ?_)
 refine zo rfl (bK q4) ?_
 refine ax.op rfl rfl rfl (aA (v:=.int .u8 (m:Int)) (u:=.int .u8 128) (r:=.bool true) rfl rfl (by simp only[binV,ikBeq,aj,intV];congr 2<;>simp<;>omega)) (ax.nil ?_)
 refine WP.cond (t:=true) rfl (WP.seq (WP.region rfl ?_))
 refine zo rfl (bK q4) ?_
 by_cases F4:0<m
 ·refine ax.op rfl rfl rfl (aA (v:=.int .u8 (m:Int)) (u:=.int .u8 0) (r:=.bool true) rfl rfl (by simp only[binV,ikBeq,aj,intV];congr 2<;>simp<;>omega)) ?_
  refine zk 4 rfl ?_
  refine zc rfl (mW hT) (fun v I ⟨e2,J⟩=>ax.nil ?_)
  subst e2;subst J
  refine WP.seq (WP.region rfl ?_)
  exact zo rfl (bK q2) (ax.op rfl rfl rfl (fD rfl) (ax.nil (WP.ret (hq _ _ rfl c1))))
 ·have hi0:i=0:=by omega
  have ac4:m=0:=by omega
  subst hi0;subst ac4
  refine zo rfl (aA (v:=.int .u8 0) (u:=.int .u8 0) (r:=.bool false) rfl rfl rfl) (zm rfl (zo rfl (bK q3) (zo rfl (aA (v:=.int .i64 0) (u:=.int .i64 0) (r:=.bool true) rfl rfl rfl) (zp rfl ?_))))
  refine zc rfl (mW hT) (fun v I ⟨e2,J⟩=>ax.nil ?_)
  subst e2;subst J
  refine WP.seq (WP.region rfl ?_)
  exact zo rfl (bK q2) (ax.op rfl rfl rfl (fD rfl) (ax.nil (WP.ret (hq _ _ rfl c1))))
set_option maxRecDepth 4000 in
theorem Lo (hT:W told): ∀(k m i acc:Nat) (h:H) (E:List (Nat×V)) (Q:Ex→List (Nat×V)→H→Prop),i+k≤8→m<128^(k+1)→(i=0∨0<m)→acc<128^i →
  Cu h c X S (digits k m++l)→look E 0=some (.ptr c 0)→look E 2=some (.int .u64 (acc:Int))→look E 3=some (.int .i64 (i:Int)) →
  (∀E' h',look E' 2=some (.int .u64 ((acc+m*128^i:Nat):Int))→Cu h' c X S l→Q .ret E' h')→WP ⟨Tryz.prog,told⟩ 38 (.loop nbX) E h Q:=by
 intro k
 induction k with
 |zero =>
  intro m i acc h E Q hi hm hz ha hc h0 h2 h3 hq
  have I:m<128:=by simpa using hm
  rw[jO I] at hc
  exact Er hT (by omega) I hz ha hc h0 h2 h3 hq
 |succ k ih =>
  intro m i acc h E Q hi hm hz ha hc h0 h2 h3 hq
  by_cases I:m<128
  ·rw[jO I] at hc
   exact Er hT (by omega) I hz ha hc h0 h2 h3 hq
  ·have hd:m/128<128^(k+1):=by
    rw[Nat.div_lt_iff_lt_mul (by omega)]
    rw[wF] at hm
    exact hm
   rw[digits,ak I] at hc
   refine WP.loop (WP.seq (WP.block ?_))
   refine Ch hT (x:=m%128+128) (by omega) (by omega) ha hc h0 h2 h3 (fun E1 h₁ q0 q2 q3 q4 c1 => ?_)
   refine WP.seq (WP.region rfl ?_)
   refine zo rfl (bK q4) ?_
   refine ax.op rfl rfl rfl (aA (v:=.int .u8 ((m%128+128:Nat):Int)) (u:=.int .u8 128) (r:=.bool false) rfl rfl (by simp only[binV,ikBeq,aj,intV];congr 2<;>simp<;>omega)) (ax.nil ?_)
   refine WP.cond (t:=false) rfl (WP.skip ?_)
   refine zr rfl (zo rfl (bK q3) (zo rfl (aA (v:=.int .i64 (i:Int)) (u:=.int .i64 1) (r:=.int .i64 ((i+1:Nat):Int)) rfl rfl (by exact bC (aB (by omega) (by omega)))) ?_))
   refine ax.op rfl rfl rfl (fD rfl) (ax.nil ?_)
   have e1:(m%128+128)%128=m%128:=by omega
   rw[e1] at q2
   have J:128^(i+1)=128^i*128:=wF 128 i
   refine ih (m/128) (i+1) (acc+m%128*128^i) h₁ _ Q (by omega) hd (.inr (by omega)) ?_ c1 q0 q2 rfl (fun E' h' p1 p3=>hq E' h' ?_ p3)
   ·have:m%128*128^i≤127*128^i:=rH _ (by omega)
    rw[J];omega
   ·rw[p1]
    have:acc+m%128*128^i+m/128*128^(i+1)=acc+m*128^i:=by
     rw[J,wG (128^i) 128,←Nat.mul_assoc,ox,←rL]
     congr 2
     omega
    rw[this]
theorem vF (I:W told)(J:n<9223372036854775808)(hc:Cu h c X S (digits 9 n++l)):
  Call ⟨Tryz.prog,told⟩ 200 [.ptr c 0] h fun v h'=>v=.int .u64 (n:Int)∧Cu h' c X S l:=by
 rw[Lj 8 n (by simpa using J)] at hc
 refine Call.of_wp (I.free _ rfl) Tryz.func200 rfl rfl (zK 8 rfl (WP.block ?_))
 refine Lo I 8 n 0 0 h _ _ (by omega) (by simpa using J) (.inl rfl) (by simp) hc rfl rfl rfl (fun E' h' q1 q2=>⟨aa,_,?_,rfl,q2⟩)
 have:0+n*128^0=n:=by simp
 rw[this] at q1
 show resLE _ E' h' [.tmp 2]=_
 simp only[resLE,mapO,resE,q1]
theorem yG (I:W told)(hn:n≤1048576)(J:Cu h c X S (digits 9 n++l)):
  Call ⟨Tryz.prog,told⟩ 202 [.ptr c 0] h fun v h'=>v=.int .i64 (n:Int)∧Cu h' c X S l:=by
 refine Call.of_wp (I.free _ rfl) Tryz.func202 rfl rfl (zK 7 rfl (zc rfl (vF I (by omega) J) ?_))
 rintro v h' ⟨rfl,J⟩
 refine zk 5 rfl (zB rfl uN (by simp;omega) ?_)
 refine zc rfl (mW I) ?_
 rintro v h' ⟨rfl,rfl⟩
 refine zk 4 rfl (zo rfl (cJ rfl (J8 (by omega))) ?_)
 exact zk 2 rfl (WP.ret ⟨aa,_,rfl,rfl,J⟩)
theorem J_ (hT:W told)(hm:m.length≤1048576)(hc:Cu h c X S (digits 9 m.length++m++l)):
  Call ⟨Tryz.prog,told⟩ 201 [.ptr c 0] h fun v h'=>Cu h' c X (aQ v m::S) l:=by
 rw[cP] at hc
 refine Call.of_wp (hT.free _ rfl) Tryz.func201 rfl rfl (zK 7 rfl (zc rfl (yG hT hm hc) ?_))
 rintro v h ⟨rfl,v,I,s⟩
 have hv:=s.aD (k:=1) rfl I
 have J:=dB hv
 refine zk 7 rfl (zY s 0 mo bE rfl (zo rfl (aN rfl rfl rfl (aW aK hv)) (zB rfl uN (by simp<;>omega) ?_)))
 refine zc rfl (mW hT) ?_
 rintro r h' ⟨rfl,rfl⟩
 refine zk 2 rfl ?_
 have s0:=s
 have hto:=iQ hv (b:=m.length) (by simp)
 have Iv:=dB hto.2.1
 refine WP.drawn [none,none,some (0,2),some (0,2),some (0,2),some (0,2),some (0,2),some (0,2),none,none] rfl (by kernel_rfl) (by kernel_rfl) ?_
 refine zM rfl (ay.any rfl rfl rfl rfl (OpR.sJ rfl s rfl rfl rfl rfl (by omega)) ?_)
 intro v2 h s
 have s:=s.ae [1,1,0]
 have nL:=dB (s.buf (k:=2) rfl).view
 have s1:=s
 have hto:=iQ (s.aD (k:=1) rfl I) (b:=m.length) (by simp)
 refine zM rfl (zN rfl (zF rfl (mo _ _) (zL rfl (s.ld (k:=0) rfl bE rfl) (zM rfl (zO rfl (cH (p:=none) (q:=some (.int .i64 (m.length:Int))) (m:=none) (p':=none) (q':=some m.length) (m':=none) rfl rfl rfl rfl rfl (by rw[fT (by omega)];rfl) rfl (iQ (s.aD (k:=1) rfl I) (b:=m.length) (by simp)).1) ?_)))))
 refine ay.any rfl rfl rfl rfl (OpR.pQ rfl (s.ae [2,1]) (yb I (b:=m.length) (by simp)) rfl rfl rfl rfl (by rw[nt rfl];simp only[cG];omega)) ?_
 intro v3 h s
 have s:=s.ae [2,1,0]
 rw[nt rfl] at s
 have RY:=dB (s.buf (k:=2) rfl).view
 refine zA rfl ?_
 refine ay.nil ⟨⟨aa,aa,fun _ _=>.inr ⟨rfl,⟨_,bK rfl⟩,bH _ rfl⟩,fun _ _=>.inr ⟨rfl,⟨_,pJ rfl⟩,bH _ rfl⟩,fun _ _=>.inr ⟨rfl,⟨_,lE rfl (mo _ _)⟩,bH _ rfl⟩,eE (.inr ⟨rfl,⟨_,aZ rfl (s0.ld (k:=0) rfl bE rfl)⟩,J⟩) (.inr ⟨rfl,⟨_,aZ rfl (s1.ld (k:=0) rfl bE rfl)⟩,J⟩),fun _ _=>.inr ⟨rfl,⟨_,bK rfl⟩,bH _ rfl⟩,eE (.inr ⟨rfl,⟨_,cH (p:=none) (q:=some (.int .i64 (m.length:Int))) (m:=none) (p':=none) (q':=some m.length) (m':=none) rfl rfl rfl rfl rfl (by rw[fT (by omega)];rfl) rfl (iQ (s0.aD (k:=1) rfl I) (b:=m.length) (by simp)).1⟩,Iv⟩) (.inr ⟨rfl,⟨_,cH (p:=none) (q:=some (.int .i64 (m.length:Int))) (m:=none) (p':=none) (q':=some m.length) (m':=none) rfl rfl rfl rfl rfl (by rw[fT (by omega)];rfl) rfl (iQ (s1.aD (k:=1) rfl I) (b:=m.length) (by simp)).1⟩,Iv⟩),aa,aa,aa⟩,?_⟩
 have kz:=fu (s.aD (k:=1) rfl I) (a:=m.length) (by simp)
 have hu:=kz.2.1.cells
 refine zK 5 rfl (zY s 0 mo bE rfl (zm rfl (zo rfl (cH (p:=some (.int .i64 (m.length:Int))) (q:=none) (m:=none) (p':=some m.length) (q':=none) (m':=none) rfl rfl rfl rfl (by rw[fT (by omega)];rfl) rfl rfl kz.1) ?_)))
 refine zn rfl (zf rfl (mo _ _) (zS rfl (s.eH (k:=0) rfl gU rfl (by decide) hu.1 hu.2) ?_))
 rintro h s
 refine zk 6 rfl (WP.ret ⟨aa,_,rfl,?_⟩)
 have hr:=rU I (a:=m.length) (by simp)
 rw[wB rfl] at hr
 exact⟨_,hr,s⟩
end
theorem Wd {P:Program}{t:Nat}{p v:V}(I:look E a=some p)(hd:loadV P h t p=some v): resLE P E h [.cell a t]=some v:=by simp only[resLE,mapO,resE,I,hd]
section
variable {told:cR} {c:Nat} {v w:V} {m:List Nat}
theorem OL (J:W told){x:cq}(hx:x.Ok)(hc:Cu h c X S (kC x++l)):
  Call ⟨Tryz.prog,told⟩ 204 [.ptr c 0] h fun r h'=>∃u,r=.agg [.int .i64 x.aM,.int .i64 x.pos,.bool x.whole,u]∧Cu h' c X (aQ u x.b::S) l:=by
 obtain⟨x1,x2,x3,x4,x5,x6⟩:=hx
 obtain⟨pg,ps,wh,b⟩:=x
 dsimp only at x1 x2 x3 x4 x5 x6 hc
 obtain⟨pg,rfl⟩:=Int.eq_ofNat_of_zero_le x1
 obtain⟨ps,rfl⟩:=Int.eq_ofNat_of_zero_le x3
 simp only[kC,dY,cP,jy,ey] at hc
 generalize Gy:(if wh=true then 1 else 0)=wb at hc
 have BV:wb≤1:=by rw[←Gy];cases wh<;>decide
 have kG:decide ((wb:Int)=1)=wh:=by rw[←Gy];cases wh<;>rfl
 obtain⟨v,I,s⟩:=hc
 refine Call.of_wp (J.free _ rfl) Tryz.func204 rfl rfl (zg rfl ?_)
 refine ax.cm s rfl rfl rfl (b6 oE) (fun p2 h s => ?_)
 refine zk 4 rfl (zc rfl (yG J (by omega) ⟨v,I,s.ae [1,1,0]⟩) ?_)
 rintro v h ⟨rfl,v,I,s⟩
 refine zm rfl (zc rfl (yG J (by omega) ⟨v,I,s⟩) ?_)
 rintro v h ⟨rfl,v,I,s⟩
 refine zf rfl (oF _ _) ?_
 refine zS rfl (by exact s.eH (k:=2) rfl jF rfl (by decide) rfl rfl) (fun h s => ?_)
 refine zf rfl (qt _ _) ?_
 refine zS rfl (by exact s.eH (k:=2) rfl jF rfl (by decide) rfl rfl) (fun h s => ?_)
 refine zk 4 rfl (zc rfl (FU J ⟨v,I,s⟩) ?_)
 rintro v h ⟨rfl,v,I,s⟩
 refine zk 5 rfl (zB rfl uN (by simp;omega) ?_)
 refine zc rfl (mW J) ?_
 rintro r h' ⟨rfl,rfl⟩
 refine zk 4 rfl (zo rfl (aA (r:=.bool wh) rfl rfl (by rw[←kG];exact eu)) ?_)
 refine zf rfl (w9 _ _) ?_
 refine zS rfl (by exact s.eH (k:=2) rfl yX rfl (by decide) rfl rfl) (fun h s => ?_)
 refine zk 4 rfl ?_
 rw[←cP] at I
 refine zc rfl (J_ J (by omega) ⟨v,I,s⟩) ?_
 rintro u h ⟨v,I,s⟩
 have hu:=(s.buf (k:=2) rfl).view.cells
 refine zf rfl (nD _ _) (zS rfl (s.eH (k:=3) rfl gU rfl (by decide) hu.1 hu.2) ?_)
 rintro h s
 dsimp only[V.cells,List.length_cons,List.length_nil,Nat.reduceAdd,aI,bringA,getA,List.set,setA] at s
 refine zk 3 rfl (zl rfl (s.dn (k:=3) rfl HP pK) (zS rfl (s.fS (j:=3) rfl pK rfl (by simp only[iT,iU,hu.2];rfl)) ?_))
 rintro h s
 refine zv ?_
 refine WP.ret ⟨aa,_,Wd rfl (s.dn (k:=3) rfl HP pK),?_⟩
 exact⟨u,rfl,v,I,s.del 3⟩
structure yH (tx pv nx:Nat)(data:List Nat)(aR:List cq): Prop where
 tx:tx<9223372036854775808
 pv:pv<9223372036854775808
 nx:nx<9223372036854775808
 data:data.length≤1048576
 many:aR.length≤1048576
theorem UB (x:cq): 1≤(kC x).length:=by simp only[kC,bV,bF];omega
theorem Ka : ∀l:List cq,l.length≤(l.flatMap kC).length:=by
 intro l
 induction l with
 |nil=>simp
 |cons x l I=>have:=UB x;simp only[wu,bV,bF];omega
noncomputable def rdL : Code:=cN [1,1,1,1,1,1,1,1,0,1,0,0] ((Tryz.f192.body).getD .skip)
theorem X7 (hT:W told){kd pv:Nat}{dt:V}{aR:List cq}(gT:∀x∈aR,x.Ok)(hn:aR.length≤1048576): ∀(j i:Nat) (av:V) (cs:List V) (h:H) (E:List (Nat×V)) (Q:Ex→List (Nat×V)→H→Prop),
  i+j=aR.length→Cu h c X (pt p2 (.cells 6 (iw kd tx pv nx dt av) false)::.arr 4 av cs::dm cs (aR.take i)::S) ((aR.drop i).flatMap kC)→Has E [(0,.ptr c 0),(2,.ptr p2 0),(41,.int .i64 aR.length),(42,.int .i64 i)] →
  (∀E' h' av cs,Has E' [(0,.ptr c 0),(2,.ptr p2 0)]→Cu h' c X (pt p2 (.cells 6 (iw kd tx pv nx dt av) false)::.arr 4 av cs::dm cs aR::S) []→Q (.exit 2) E' h')→WP ⟨Tryz.prog,told⟩ 64 (.loop rdL) E h Q:=by
 intro j
 induction j with
 |zero =>
  intro i av cs h E Q hi hc hE hq
  refine WP.loop (WP.has hE (zg rfl (zC rfl bh (by simp;omega) ?_)))
  refine zk 3 rfl (WP.exit ?_)
  rw[gj (by omega),A3 (by omega)] at hc
  exact hq _ _ _ _ ⟨rfl,rfl,aa⟩ hc
 |succ j ih =>
  intro i av cs h E Q hi hc hE hq
  have hx:aR[i]?=some (aR[i]'(by omega)):=bx _
  generalize (aR[i]'(by omega))=x at hx
  have hxo:=gT x (bD hx)
  have I:aR.drop i=x::aR.drop (i+1):=by
   obtain⟨h1,rfl⟩:=List.getElem?_eq_some_iff.1 hx
   exact qa h1
  have J:aR.take (i+1)=aR.take i++[x]:=by rw[wq,hx];rfl
  rw[I,wu] at hc
  obtain⟨v,hX,s⟩:=hc
  refine WP.loop (WP.has hE (zg rfl (zB rfl bh (by simp;omega) ?_)))
  refine zk 5 rfl (WP.block ?_)
  have s0:=s
  have Gz:=(s.ju (j:=3) rfl).2.2
  refine WP.drawn [some (0,3),some (0,3),ah,ah,ah,ah,ah,ah] rfl (by kernel_rfl) (by kernel_rfl) ?_
  refine zF rfl (m5 _ _) (zL rfl (s.ld (k:=2) rfl uP rfl) (zM rfl (ay.any rfl rfl rfl rfl (OpR.call rfl rfl rfl rfl (OL hT hxo ⟨v,hX,s⟩)) ?_)))
  rintro w h ⟨u,rfl,v,hX,s⟩
  dsimp only[iw] at s
  have hu:=(s.buf (k:=2) rfl).view.cells
  have B7:=dB (s.buf (k:=2) rfl).view
  have s1:=s
  have s:=(s.ae [2]).ga
  dsimp only[bringA,getA,aI] at s
  obtain⟨rv,h1,tF,s2⟩:=jB (P:=Tryz.prog) (k:=4) (x:=.agg [.int .i64 x.aM,.int .i64 x.pos,.bool x.whole,u]) s ji oE pK rfl (by decide) (by decide) rfl (by simp only[V.cells,iT,iU,hu.2];rfl)
  dsimp only[V.cells] at s2
  refine ay.any rfl rfl rfl rfl (OpR.of (R:=fun v h'=>v=rv∧h'=h1) (ke rfl tF) ⟨rfl,rfl⟩) ?_
  rintro v' h' ⟨rfl,rfl⟩
  obtain⟨i1,iu,gW,pz⟩:=u7
  have TY:cs.length=(aR.take i).length*4:=by
   obtain⟨a,b,q1,q2,q3⟩:=s2.at (k:=6) rfl
   exact pU q3
  rw[fO] at TY
  obtain⟨mM,h2,sM,s3⟩:=gv (s2.ae [5,0]) ji iu oE gW (by omega) rfl (by decide) (by simp only[bF,cG];omega)
  dsimp only[bringA,getA,aI] at s3
  refine ay.any rfl rfl rfl rfl (OpR.of (R:=fun v h'=>v=mM∧h'=h2) (jI rfl rfl sM) ⟨rfl,rfl⟩) ?_
  rintro v' h' ⟨rfl,rfl⟩
  have s:=s3
  have D8:=s.ju (j:=0) rfl
  refine zF rfl (m5 _ _) (ay.ij rfl rfl rfl (OpR.eA rfl rfl rfl (s.eH (k:=5) rfl NL rfl (by decide) D8.1 D8.2.1)) ?_)
  rintro v' h ⟨rfl,s⟩
  dsimp only[Nat.reduceAdd,List.set,setA] at s
  refine ay.nil ⟨⟨fun _ _=>.inr ⟨rfl,⟨_,lE rfl (m5 _ _)⟩,bH _ rfl⟩,qU (.inr ⟨rfl,⟨_,aZ rfl (s0.ld (k:=2) rfl uP rfl)⟩,Gz⟩) (.inr ⟨rfl,⟨_,aZ rfl (s1.ld (k:=3) rfl uP rfl)⟩,Gz⟩) (.inr ⟨rfl,⟨_,aZ rfl (s2.ld (k:=4) rfl uP rfl)⟩,Gz⟩),aa,aa,aa,aa,aa,aa,aa⟩,?_⟩
  refine zr rfl (zb rfl (by exact bC (aB (by omega) (by omega))) ?_)
  refine zm rfl (zv ?_)
  have s4:Sat _ (dm cs (aR.take i)::.bY u x.b::_):=s.ae [6,2]
  have s5:=s4.two (C:=dm (cs++[.int .i64 x.aM,.int .i64 x.pos,.bool x.whole,u]) (aR.take i++[x])) (aV.kj _ _) (aV.bY _ _) fun a b q1 q2=>yl q1 ⟨⟨⟨rfl,rfl,rfl⟩,q2⟩,aa⟩
  rw[←J] at s5
  have s6:=(s5.ae [3,3,3,1,0]).del 5
  exact ih (i+1) _ _ h _ Q (by omega) ⟨v,hX,s6⟩ ⟨rfl,rfl,rfl,rfl,aa⟩ hq
theorem X8 (J:W told){kd pv:Nat}{aR:List cq}(hg:ej kd aR=true)(hk:kd<256)(hr:yH tx pv nx data aR)(hc:Cu h c X S (dD kd tx pv nx data aR)):
  Call ⟨Tryz.prog,told⟩ 192 [.ptr c 0] h fun r h'=>∃dt ch cs,r=.agg (iw kd tx pv nx dt ch)∧Sat h' (X::aQ dt data::.arr 4 ch cs::dm cs aR::S):=by
 simp only[dD,dY,cP,jy,ey] at hc
 obtain⟨v,I,s⟩:=hc
 refine Call.of_wp (J.free _ rfl) Tryz.func192 rfl rfl (zg rfl ?_)
 refine ax.cm s rfl rfl rfl (b6 rO) (fun p2 h s => ?_)
 dsimp only[V.cells,List.length_cons,List.length_nil,Nat.reduceAdd] at s
 refine zk 4 rfl (zc rfl (FU J ⟨v,I,s.ae [1,1,0]⟩) ?_)
 rintro v h ⟨rfl,v,I,s⟩
 dsimp only[aI,bringA,getA] at s
 refine zo rfl (cJ rfl (Ln (by omega))) ?_
 refine zf rfl (uQ _ _) ?_
 refine zS rfl (by exact s.eH (k:=2) rfl jF rfl (by decide) rfl rfl) (fun h s => ?_)
 dsimp only[Nat.reduceAdd,List.set,setA] at s
 refine zk 4 rfl (zo rfl (Bu rfl rfl) (zk 5 rfl (zf rfl (P_ _ _) (zf rfl (Qa _ _) (zf rfl (Qb _ _) (zo rfl (cT rfl (by rw[abk];rfl)) ?_))))))
 refine zk 2 rfl (WP.block (WP.loop (zg rfl (zB rfl bh (rfl) (zk 5 rfl (WP.block (zg rfl (zo rfl (Cx rfl rfl (r:=.ptr p2 (0+1)) (by simp only[indexV,JO,NO,pI,NP];rfl)) ?_))))))))
 refine zk 5 rfl (zc rfl (vF J hr.tx ⟨v,I,s⟩) ?_)
 rintro v h ⟨rfl,v,I,s⟩
 refine zn rfl ?_
 refine zS rfl (by exact s.eH (k:=2) rfl vR rfl (by decide) rfl rfl) (fun h s => ?_)
 dsimp only[Nat.reduceAdd,List.set,setA] at s
 refine zv (zr rfl (zb rfl (by exact bC (aB (by omega) (by omega))) ?_))
 refine zm rfl (zv (WP.loop (zg rfl (zt rfl (aA rfl rfl bh) (rfl) (zv (zw (zi rfl (WP.skip (zw (WP.block (zg rfl (zo rfl (Cx rfl rfl (r:=.ptr p2 (0+2)) (by simp only[indexV,JO,NO,pI,NP];rfl)) ?_))))))))))))
 refine zk 5 rfl (zc rfl (vF J hr.pv ⟨v,I,s⟩) ?_)
 rintro v h ⟨rfl,v,I,s⟩
 refine zn rfl ?_
 refine zS rfl (by exact s.eH (k:=2) rfl vR rfl (by decide) rfl rfl) (fun h s => ?_)
 dsimp only[Nat.reduceAdd,List.set,setA] at s
 refine zv (zr rfl (zb rfl (by exact bC (aB (by omega) (by omega))) ?_))
 refine zk 2 rfl (WP.loop (zg rfl (zB rfl bh (rfl) (zk 5 rfl (WP.block (zg rfl (zo rfl (Cx rfl rfl (r:=.ptr p2 (0+3)) (by simp only[indexV,JO,NO,pI,NP];rfl)) ?_)))))))
 refine zk 5 rfl (zc rfl (vF J hr.nx ⟨v,I,s⟩) ?_)
 rintro v h ⟨rfl,v,I,s⟩
 refine zn rfl ?_
 refine zS rfl (by exact s.eH (k:=2) rfl vR rfl (by decide) rfl rfl) (fun h s => ?_)
 dsimp only[Nat.reduceAdd,List.set,setA] at s
 refine zv (zr rfl (zb rfl (by exact bC (aB (by omega) (by omega))) ?_))
 refine zm rfl (zv (WP.loop (zg rfl (zh rfl (aA rfl rfl bh) (rfl) (zv (zw (zj rfl (WP.exit (zg rfl (zm rfl ?_))))))))))
 rw[←cP] at I
 refine zc rfl (J_ J hr.data ⟨v,I,s⟩) ?_
 rintro dt h ⟨v,I,s⟩
 have jV:=(s.buf (k:=2) rfl).view.cells
 refine zf rfl (Ak _ _) (zS rfl (s.eH (k:=3) rfl gU rfl (by decide) jV.1 jV.2) ?_)
 rintro h s
 refine zk 4 rfl (zc rfl (yG J hr.many ⟨v,I,s⟩) ?_)
 rintro v h ⟨rfl,v,I,s⟩
 have hv:=s.aD (k:=1) rfl I
 refine zk 7 rfl (zY s 0 mo bE rfl (zo rfl (aN rfl rfl rfl (aW aK hv)) (zB rfl uN (by have:=Ka aR;simp only[gE];omega) ?_)))
 refine zc rfl (mW J) ?_
 rintro r h' ⟨rfl,rfl⟩
 refine zk 4 rfl ?_
 obtain⟨i1,iu,gW,pz⟩:=u7
 have DZ:=hr.many
 obtain⟨nv,h1',e1,s1⟩:=qw (P:=Tryz.prog) s ji iu oE gW (by omega) rfl (by decide) (by decide) (n:=0) (c:=aR.length) (by omega) (by omega)
 dsimp only[repeatL] at s1
 refine ax.any rfl rfl rfl (OpR.of (R:=fun v h'=>v=nv∧h'=h1') (qT rfl rfl e1) ⟨rfl,rfl⟩) ?_
 rintro v h' ⟨rfl,rfl⟩
 have s:=s1.ae [1,1,2,0]
 have G6:=s.ju (j:=3) rfl
 refine zf rfl (m5 _ _) (zS rfl (s.eH (k:=2) rfl NL rfl (by decide) G6.1 G6.2.1) ?_)
 rintro h s
 have gT:∀x∈aR,x.Ok:=fun x hx=>by
  simp only[ej,bQ,ud,gE] at hg
  exact hg.2 x hx
 have s2:=((s.gD (φ:=True) aa).gK (B:=dm [] []) fun _ _ h=>h).ae [1,1,1,1,0]
 refine zk 7 rfl (WP.block ?_)
 refine X7 J gT hr.many aR.length 0 _ [] h _ _ (by omega) ⟨_,I,s2⟩ ⟨rfl,rfl,rfl,rfl,aa⟩ (fun E h av cs hE hc => ?_)
 obtain⟨v,I,s⟩:=hc
 refine WP.has hE ?_
 have hv:=s.aD (k:=1) rfl I
 have jV:=(s.buf (k:=5) rfl).view.cells
 have D8:=s.ju (j:=3) rfl
 have fX:[V.int .i64 (kd:Int),V.int .u64 (tx:Int),V.int .u64 (pv:Int),V.int .u64 (nx:Int),dt,av].all storable=true:=m8 jV.2 D8.2.1
 have eX:AB aR:=⟨by omega,fun x hx=>by have:=gT x hx;unfold cq.Ok at this;omega,fun x hx=>by have:=gT x hx;unfold cq.Ok at this;omega⟩
 refine zK 4 rfl (zY s 0 mo bE rfl (zo rfl (aN rfl rfl rfl (aW aK hv)) (zB rfl eu (rfl) (zm rfl (zl rfl (s.dn (k:=2) rfl oc ik) (zc rfl (I5 J (s.ae [3,3]) jV.2 eX) ?_))))))
 rintro r h ⟨rfl,s⟩
 rw[hg]
 refine zq rfl (zc rfl (mW J) ?_)
 rintro r h' ⟨rfl,rfl⟩
 refine zk 3 rfl (zl rfl (s.dn (k:=4) rfl oc ik) (zS rfl (s.fS (j:=4) rfl ik rfl fX) ?_))
 rintro h s
 refine zv ?_
 refine WP.ret ⟨aa,_,Wd rfl (s.dn (k:=4) rfl oc ik),?_⟩
 exact⟨dt,av,cs,rfl,((s.ae [3,4,0,0]).del 4).del 4⟩
end
end Go.Proofs.YtefepnnfphdkpaaGreat.Am
