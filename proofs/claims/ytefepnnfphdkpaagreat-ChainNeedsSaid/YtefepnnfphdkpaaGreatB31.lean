/- ChainNeeds: a part of its proof; conditions: its statement's. -/
import Derived.Test.YtefepnnfphdkpaaGreatB30
import Derived.Test.YtefepnnfphdkpaaGreatB12
import Derived.Test.YtefepnnfphdkpaaGreatB16
import Derived.RangeFuncLeaves
set_option linter.defProp false
namespace Go.Proofs.YtefepnnfphdkpaaGreat.Am
open Go
def Ds:=@Tryz.func31
def sdep : Code→Nat
 | .seq a b=>1+max (sdep a) (sdep b)
 | _=>1
def eN (C:bX)(au:Nat)(code:Code)(E:List (Nat×V))(h:H)(d:m9)(Q:Ex→List (Nat×V)→H→m9→Prop): Prop :=
 ∀env,gN env E→∃N0 ex I h' E' J,(∀N m,N0≤N→sdep code≤m→evTop C N m code ⟨env,au,h⟩ d=some (ex,⟨I,au,h'⟩,J))∧gN I E'∧Q ex E' h' J
section
variable {C:bX} {au:Nat} {E:List (Nat×V)} {h:H} {d:m9} {Q:Ex→List (Nat×V)→H→m9→Prop}
def noDef : List Oper→Bool
 | []=>true
 | o::l=>(match o.op with
  | .defer _=>false
  | _=>true)&&noDef l
def noDefC : Code→Bool
 | .seq a b=>noDefC a&&noDefC b
 | .region _ ops false=>noDef ops.toList
 | _=>true
theorem evOpsD_of {self:Self}{L:List Oper}{d:m9}: ∀ {l:List Oper} {s s':St},noDef l=true→evOps C self L l s=some s'→evOpsD C self L l s d=some (s',d):=by
 intro l
 induction l with
 | nil=>intro s s' _ h; simp only [evOps,aj] at h; subst h; rfl
 | cons o l ih =>
  intro s s' I h
  simp only [noDef,aG] at I
  have key:(cond (wantedV L s.env o) (match evOp C self s.env s.h o with
    | some (v,h)=>match s.put o.dst v h with
     | some s'=>evOpsD C self L l s' d
     | none=>none
    | none=>none) (match s.put o.dst bE s.h with
    | some s'=>evOpsD C self L l s' d
    | none=>none))=some (s',d):=by
   simp only [evOps] at h
   cases hw:wantedV L s.env o with
   | true =>
    rw [hw,af] at h
    rw [af]
    cases ho:evOp C self s.env s.h o with
    | none=>rw [ho] at h; cases h
    | some r =>
     obtain ⟨v,h1⟩:=r
     rw [ho] at h
     simp only at h ⊢
     cases J:s.put o.dst v h1 with
     | none=>rw [J] at h; cases h
     | some s1=>rw [J] at h; exact ih I.2 h
   | false =>
    rw [hw,ay] at h
    rw [ay]
    cases J:s.put o.dst bE s.h with
    | none=>rw [J] at h; cases h
    | some s1=>rw [J] at h; exact ih I.2 h
  unfold evOpsD
  split
  ·rename_i cl j4
   rw [j4] at I
   cases I.1
  ·exact key
theorem LH : ∀ {code:Code} {n:Nat} {s:St} {ex:Ex} {s':St} {d:m9},noDefC code=true→ev C n code s=some (ex,s')→∀N m,n≤N→sdep code≤m→evTop C N m code s d=some (ex,s',d):=by
 have leaf:∀ {code:Code} {n:Nat} {s:St} {ex:Ex} {s':St} {d:m9} {N m:Nat},(∀m,evTop C N (m+1) code s d=match r5 C N code s with
   | some (ex,s')=>some (ex,s',d)
   | none=>none)→ev C n code s=some (ex,s')→n≤N→1≤m→evTop C N m code s d=some (ex,s',d):=fun {code n s ex s' d N m} he I J hm=>by
  obtain ⟨k,rfl⟩:∃k,m=k+1:=⟨m-1,by omega⟩
  rw [he,pY,dM J _ _ _ I]
 intro code
 induction code with
 | seq a b VI VJ =>
  intro n s ex s' d hn I N m J hm
  simp only [noDefC,aG] at hn
  simp only [sdep] at hm
  obtain ⟨k,rfl⟩:∃k,m=k+1:=⟨m-1,by omega⟩
  cases n with
  | zero=>cases I
  | succ n =>
   rw [gB] at I
   simp only [evStep] at I
   cases ha:ev C n a s with
   | none=>rw [ha] at I; cases I
   | some r =>
    obtain ⟨e1,s1⟩:=r
    have h1:=VI (d:=d) hn.1 ha N k (by omega) (by omega)
    simp only [evTop,h1]
    rw [ha] at I
    cases e1 with
    | normal=>exact VJ hn.2 I N k (by omega) (by omega)
    | exit i=>simp only [aj,aA] at I; obtain ⟨rfl,rfl⟩:=I; rfl
    | ret=>simp only [aj,aA] at I; obtain ⟨rfl,rfl⟩:=I; rfl
 | region id ops draw =>
  intro n s ex s' d hn I N m J hm
  cases draw with
  | true=>exact leaf (fun m=>rfl) I J hm
  | false =>
   obtain ⟨k,rfl⟩:∃k,m=k+1:=⟨m-1,by have:1≤m:=hm; omega⟩
   cases n with
   | zero=>cases I
   | succ n =>
    rw [gB] at I
    simp only [evStep,ay] at I
    cases ho:evOps C (ev C n) ops.toList ops.toList s with
    | none=>rw [ho] at I; cases I
    | some s1 =>
     rw [ho] at I
     simp only [aj,aA] at I
     obtain ⟨rfl,rfl⟩:=I
     have h2:=mJ (dM (C:=C) (show n≤N by omega)) _ _ _ ho
     simp only [evTop,pY,evOpsD_of (d:=d) hn h2]
 | _=>intro n s ex s' d hn I N m J hm; exact leaf (fun m=>rfl) I J hm
theorem eN.of_wp {code:Code}(J:noDefC code=true)(hw:WP C au code E h fun ex E' h'=>Q ex E' h' d): eN C au code E h d Q:=by
 intro env hE
 obtain ⟨N,ex,I,h',E',h1,h2,h3⟩:=hw env hE
 exact ⟨N,ex,I,h',E',d,fun M m hM hm=>LH J h1 M m hM hm,h2,h3⟩
theorem eN.seq {a b:Code}(hw:eN C au a E h d fun ex E' h' J=>match ex with
  | .normal=>eN C au b E' h' J Q
  | ex=>Q ex E' h' J): eN C au (.seq a b) E h d Q:=by
 intro env hE
 obtain ⟨N,ex,I,h',E',J,h1,h2,h3⟩:=hw env hE
 have one:∀M m,N≤M→sdep (.seq a b)≤m+1→evTop C M m a ⟨env,au,h⟩ d=some (ex,⟨I,au,h'⟩,J):=fun M m hM hm=>h1 M m hM (by simp only [sdep] at hm; omega)
 have out:(match ex with | .normal=>False | _=>True)→Q ex E' h' J→∃N0 ex I h' E' J,(∀N m,N0≤N→sdep (.seq a b)≤m→evTop C N m (.seq a b) ⟨env,au,h⟩ d=some (ex,⟨I,au,h'⟩,J))∧gN I E'∧Q ex E' h' J:=fun hx hq=>by
  refine ⟨N,ex,I,h',E',J,fun M m hM hm => ?_,h2,hq⟩
  obtain ⟨k,rfl⟩:∃k,m=k+1:=⟨m-1,by simp only [sdep] at hm; omega⟩
  simp only [evTop,one M k hM hm]
  cases ex with
  | normal=>exact hx.elim
  | exit i=>rfl
  | ret=>rfl
 cases ex with
 | normal =>
  obtain ⟨K,lF,Dt,Ih,E2,d2,g1,g2,g3⟩:=h3 I h2
  refine ⟨max N K,lF,Dt,Ih,E2,d2,fun M m hM hm => ?_,g2,g3⟩
  obtain ⟨k,rfl⟩:∃k,m=k+1:=⟨m-1,by simp only [sdep] at hm; omega⟩
  simp only [evTop,one M k (by omega) hm]
  exact g1 M k (by omega) (by simp only [sdep] at hm; omega)
 | exit i=>exact out aa h3
 | ret=>exact out aa h3
theorem eN.defer {id:Nat}{ops:Array Oper}{I J:Oper}{x1 y:Operand}{cl:Go.Call}{k g:Nat}{v:V}{first cap args:List V}(hL:ops.toList=[I,J])(g1:I.guard=none)(d1:I.dst=some k)(p1:I.op=.move x1)(hk:Nat.blt k au=true)(hx:lookO E x1=some v)
 (g2:J.guard=none)(d2:J.dst=none)(p2:J.op=.defer cl)(hc:cl.callee=.value y)(hy:lookO ((k,v)::E) y=some (.fn (.func g) first cap))(ha:lookArgs ((k,v)::E) cl.args.toList=some args)
 (hq:Q .normal ((k,v)::E) h ((g,first++args,cap)::d)): eN C au (.region id ops false) E h d Q:=by
 intro env hE
 have Qe:gN (env.set k (some v)) ((k,v)::E):=hE.set _ _
 refine ⟨0,.normal,env.set k (some v),h,(k,v)::E,(g,first++args,cap)::d,fun M m _ hm => ?_,Qe,hq⟩
 obtain ⟨j,rfl⟩:∃j,m=j+1:=⟨m-1,by have:1≤m:=hm; omega⟩
 have e1:evOpsD C (r5 C M) [I,J] [I,J] ⟨env,au,h⟩ d=some (⟨env.set k (some v),au,h⟩,(g,first++args,cap)::d):=by
  have wz:wantedV [I,J] env I=true:=by simp [wantedV,g1]
  have P4:evOp C (r5 C M) env h I=some (v,h):=by simp only [evOp,p1,bD hE hx]; rfl
  have GY:St.put ⟨env,au,h⟩ I.dst v h=some ⟨env.set k (some v),au,h⟩:=by simp only [St.put,d1,hk,af]
  rw [evOpsD]
  simp only [p1,wz,af,P4,GY]
  rw [evOpsD]
  simp only [p2,g2,d2,hc,jj Qe ha,bD Qe hy,evOpsD]
 simp only [evTop,hL,e1]
theorem Du {f:FuncId}{fn:Func}{code:Code}{args:List V}{R:V→H→Prop}(hf:C.P.funcs[f]?=some fn)(hb:fn.body=some code)(hl:Nat.blt fn.ntmps args.length=false)(MD:sdep code≤1000)
 (hw:eN C fn.ntmps code (argE args 0) h [] fun ex E' h' d'=>(match ex with | .exit _=>False | _=>True)∧∃J v,(∃N0,∀N,N0≤N→runDefs C N d' h'=some J)∧jt C.P E' J fn.results.toList=some v∧R v J):
  ∃v J,(∃N0,∀N,N0≤N→toldDefer C N f args h=some (v,J))∧R v J:=by
 obtain ⟨N0,ex,LI,h',E',d',h1,J,hx,h3,v,⟨N1,hr⟩,I,hR⟩:=hw _ (Ak args)
 refine ⟨v,h3,⟨max N0 N1,fun N hN => ?_⟩,hR⟩
 have e1:=h1 N 1000 (by omega) MD
 have e2:=hr N (by omega)
 have e3:kz C.P ⟨LI,fn.ntmps,h3⟩ fn.results.toList=some v:=by
  unfold jt at I
  cases hm:mapO (resE C.P E' h3) fn.results.toList with
  | none=>rw [hm] at I; cases I
  | some vs =>
   rw [hm] at I
   have A2:=Aj (P:=C.P) (s:=⟨LI,fn.ntmps,h3⟩) J hm
   unfold kz
   rw [A2]
   exact I
 unfold toldDefer
 simp only [hf,hb,hl,ay,e1]
 cases ex with
 | exit i=>exact hx.elim
 | normal=>simp only [e2,e3]
 | ret=>simp only [e2,e3]
theorem El {g:FuncId}{fn:Func}{code:Code}{args:List V}{v:V}{J:H}(ht:C.told g=none)(hf:C.P.funcs[g]?=some fn)(hb:fn.body=some code)(hq:quietParts code=none)(hc:h_ C g args h v J): ∃I,∀N,I≤N→runDefs C N [(g,args,[])] h=some J:=by
 obtain ⟨I,h0⟩:=hc
 refine ⟨I,fun N hN => ?_⟩
 have e:=oM (dM (C:=C) hN) h0
 simp only [runDefs,ht,defCall,hf,hb,hq,fJ,pY,e]
end
def Dv (f:FuncId)(args:List V)(h:H)(r:V×H): Prop:=∃I,∀N,I≤N→toldDefer CB N f args h=some r
theorem Call.defer {told:cK}{f:FuncId}{fn:Func}{args:List V}{h:H}{R:V→H→Prop}(ht:told f=some (kN Tryz.prog f (Dv f)))(hf:Tryz.prog.funcs[f]?=some fn)(hb:fn.body.isSome=true)
 (hd:∃v I,(∃J,∀N,J≤N→toldDefer CB N f args h=some (v,I))∧R v I): Call ⟨Tryz.prog,told⟩ f args h R:=by
 obtain ⟨v,I,⟨J,h0⟩,hR⟩:=hd
 obtain ⟨r,e1,N1,h1⟩:=Bh (P:=Tryz.prog) (f:=f) (gu:=Dv f) (args:=args) (h:=h) (r:=(v,I)) ⟨J,h0⟩ (fun c w oo hw=>Dr (C:=CB) yQ w_ (h0 J (aD _)) oo hw)
 have:r=(v,I):=by
  have a:=h0 (max J N1) (by omega)
  have b:=h1 (max J N1) (by omega)
  rw [a] at b
  exact (bG b).symm
 subst this
 exact ⟨v,I,h_.told ht hf hb e1,hR⟩
section
variable {P:Program} {h:H} {S:List aq} {x y:V} {α:Type}
theorem N5 (s:Sat h S){t e:TypeId}{z:V}(hu:P.underlying t=some (.slice e))(hz:zeroT P e=some z)(hk:br P e=some 1)(hl:z.cells.length=1)(hx:x.cells=[x])(hy:y.cells=[y])(I:storable x=true)(J:storable y=true):
  ∃v h',buildSliceV P h t 2 [(0,x),(1,y)]=some (v,h')∧Sat h' (.arr 1 v [x,y]::S):=by
 refine ⟨.sl h.next 0 2 (.exact 2),newRow h [x,y],?_,?_⟩
 ·obtain ⟨z0,qA⟩:∃z0,z.cells=[z0]:=by
   match hq:z.cells with
   | []=>rw [hq] at hl; cases hl
   | [z0]=>exact ⟨z0,rfl⟩
   | _::_::_=>rw [hq] at hl; simp at hl
  simp only [buildSliceV,hu,hk,hz,qA]
  rw [show (Nat.beq [z0].length 1&&Nat.ble (2*1) 65536&&Nat.ble 1 1)=true by rfl,af]
  have e1:repeatL [z0] 2=[z0,z0]:=by simp [repeatL]
  simp only [fillV,e1,hx,hy,aQ,bF]
  show cond ([x,y].all storable) (some (V.sl h.next 0 2 (Cap.exact 2),newRow h [x,y])) none=_
  simp only [iB,jB,I,J]
  rfl
 ·refine (s.new _).jH fun m r hm=>⟨by simp [I,J],.inr ⟨h.next,2,.exact 2,2,[],rfl,?_,rfl,rfl,rfl,rfl,aD _⟩⟩
  have hm:m h.next=some (.cells 2 [x,y] false):=hm
  rw [hm]; rfl
theorem N6 {f:V→α→aq}{us:List V}{cs:List α}{i:Nat}{c:α}(J:∀v x,bn (f v x))(s:Sat h (each f us cs::S))(I:cs[i]?=some c): ∃u,us[i]?=some u∧Sat h (f u c::each f us cs::S):=by
 obtain ⟨a,b,q1,q2,q3⟩:=s.at (k:=0) rfl
 have hl:=CL q3
 have hi:=(List.getElem?_eq_some_iff.1 I).1
 have hu:us[i]?=some (us[i]'(by omega)):=aY _
 exact ⟨_,hu,(s.dup (bn.each J _ _)).jH fun a b h=>CM h hu I⟩
theorem N7 {S:Prop}: cI (pu S) (cL .bu []):=fun _ _ _=>.inl ⟨fun _ h=>(by cases h),.inl ⟨.inl rfl,rfl⟩⟩
end
theorem Hf {kd:Nat}: buildV Tryz.prog 48 [(0,.int .i64 (kd:Int))]=some (.agg (mU (kd:Int) 0 0 0 .bu .bu)):=by rw [KF]; rfl
section
variable {told:cK} {h:H} {S:List aq} {X Y:aq} {N B K M n g a p q r bA:Nat} {v x y rv op cv:V} {us:List V} {b l c R data:List Nat} {kd lk link extra aM:Nat} {cs:List (List Nat)} {ε ε':aF} {now:List (Int×List Nat)} {A:aF→aq} {pg:aF→Int→List Nat}
theorem dF.done (hw:NW N now)(hd:∀m,pgA ε' m=match lookL m now with | some b=>cR b aM | none=>pgA ε m){i:Int}(I:dF (eC now ε i) kd link extra cs): dF (pgA ε' i) kd link extra cs:=by
 rw [hd]
 unfold eC at I
 cases J:lookL i now with
 | none=>rw [J] at I; exact I
 | some b =>
  rw [J] at I
  obtain ⟨k1,k2,_⟩:=Bk (n:=aM) I.len
  exact I.tail k2 k1
theorem jq.done {R M:List Nat}(hw:NW N now)(J:∀m,pgA ε' m=match lookL m now with | some b=>cR b aM | none=>pgA ε m)(I:jq n R M (eC now ε)): jq n R M (pgA ε'):=by
 obtain ⟨ex,h0⟩:=I.head
 obtain ⟨kd,lk,lF,h1⟩:=I.marks
 exact ⟨⟨ex,h0.done hw J⟩,I.rl,⟨kd,lk,lF,h1.done hw J⟩,I.ml,I.n1,I.n2,I.own,I.hi⟩
theorem LJ (hT:W told)(hB:B≤900)(I:EI N B ε)(hw:NW N now)(hN:N≤1024)(h1:1≤kd)(h2:kd≤7)(hd:tJ K M ε)(hf:K+520*N+28≤M)(s:Sat h (GA g a p q r data bA now ε::S)):
  Call ⟨Tryz.prog,told⟩ 26 [.ptr g 0,.agg (mU (kd:Int) 0 0 0 .bu .bu)] h fun v h'=>∃(aM:Nat) (ε':aF),v=.aX [.int .u64 (aM:Int),.int .i64 0]∧EI N (B+2) ε'∧(∀m,pgA ε' m=match lookL m now with | some b=>cR b aM | none=>pgA ε m)∧tJ (K+520*N+28) M ε' ∧
   Sat h' (fy g a now true::SA a p q r .cN data bA ε'::S):=by
 have uX:=I.cj
 have er:=I.el.size
 have Xg:=I.many
 have s:=cS.1 s
 have s:Sat h (fy g a now false::dR a p q r (.ptr g 0) data bA::dG r p q ε.1::bW q p ε.2.1::bp p ε.2.2::S):=s
 have s:=(s.iP (φ:=True) aa).qc (k:=4)
 refine (NR (m8:=0) (data:=[]) hT (s.ae [2,2,2,2,2,1,0]) N7 rfl I.ok (by omega) (fun e he=>gE (hw.good e he).1) (by have:=hw.len; omega) (fun n hn=>by have:=hw.keys n hn; omega) (by decide) (by decide) (by decide) (gy _) I.el.log (by omega)).mono ?_
 rintro v h ⟨aM,e,cl,ε',hr,rfl,s⟩
 obtain ⟨rfl,rfl,J⟩:=hr.fits I (by omega) hw hN h1 h2 (by decide) hd hf
 rcases I.done (by omega) hw (by omega) (by omega) hr with ⟨j4,_⟩ | ⟨_,_,qQ,mX⟩
 ·cases j4
 ·have s:Sat h (fy g a now true::dR a p q r .cN data bA::dG r p q ε'.1::bW q p ε'.2.1::bp p ε'.2.2::pu True::S):=s
  have s2:Sat h (SA a p q r .cN data bA ε'::fy g a now true::pu True::S):=cS.2 (s.ae [1,1,1,1,0])
  exact ⟨aM,ε',rfl,qQ,mX,J,(s2.ae [1]).del 2⟩
noncomputable def VK : Code:=gr [1,1,1,0,1,0,0] ((Tryz.f73.body).getD .skip)
theorem JM (hT:W told)(fF:26+4*cs.length+tot cs≤512)(Vh:us.length=cs.length): ∀(m i:Nat) (v:V) (b:List Nat) (h:H) (E:List (Nat×V)) (Q:Ex→List (Nat×V)→H→Prop),i+m=cs.length→dF b kd link extra (cs.take i) →
  Sat h (aP v b::each (fun v c=>.cE v c) us cs::.arr 1 cv us::S)→Has E [(7,v),(22,cv),(23,.int .i64 (cs.length:Int)),(24,.int .i64 (i:Int))] →
  (∀v' b' E' h',dF b' kd link extra cs→Has E' [(7,v')]→Sat h' (aP v' b'::each (fun v c=>.cE v c) us cs::.arr 1 cv us::S)→Q (.exit 0) E' h')→WP ⟨Tryz.prog,told⟩ 38 (.loop VK) E h Q:=by
 intro m
 induction m with
 | zero =>
  intro i v b h E Q hi hp s hE hq
  refine WP.loop (WP.has hE (zg rfl (zh rfl (ag rfl rfl bf) (by simp; omega) ?_)))
  exact zk 3 rfl (WP.exit (hq v b _ _ (by rw [show cs.take i=cs from eD (by omega)] at hp; exact hp) ⟨rfl,aa⟩ s))
 | succ m ih =>
  intro i v b h E Q hi hp s hE hq
  have I:cs[i]?=some (cs[i]'(by omega)):=aY _
  generalize (cs[i]'(by omega))=c at I
  obtain ⟨u,hu,s⟩:=N6 (fun _ _=>bn.cE _ _) (s.ae [1]) I
  dsimp only [aZ,bringA] at s
  obtain ⟨id,off,e1,e2⟩:=jK (P:=Tryz.prog) s (k:=3) (i:=i) (c:=u) rfl hu fO jX
  have Jw:=kQ I
  have wL:=kR (cs:=cs) (i:=i+1)
  have hlen:(cs.take i).length=i:=by rw [fc]; omega
  have VL:cs.take (i+1)=cs.take i++[c]:=by rw [zH,I]; rfl
  refine WP.loop (WP.has hE (zg rfl (zt rfl (ag rfl rfl bf) (by simp; omega) ?_)))
  refine zk 5 rfl (WP.block (zK 3 rfl (zo rfl (dm (r:=.ptr id off) rfl rfl e1) (zl rfl (e2 _ bK) (zk 7 rfl ?_)))))
  have J:=FA (told:=told) hT (s.ae [2,0]) (aR _ _) (dZ _ _) hp (by rw [hlen]; omega)
  rw [hlen] at J
  refine zc rfl (J) ?_
  rintro r h ⟨u',b',rfl,l_,s⟩
  rw [←VL] at l_
  refine zk 4 rfl (zv (zr rfl (zb rfl (by exact bB (aC (by omega) (by omega))) ?_)))
  refine zm rfl (zv ?_)
  exact ih (i+1) u' b' _ _ Q (by omega) l_ (((s.ae [0,2,2]).del 4).del 3) ⟨rfl,rfl,rfl,rfl,aa⟩ hq
theorem FK (hT:W told)(SB:kd≤255)(yX:lk<4294967296)(I:26+4*cs.length+tot cs≤512)(J:us.length=cs.length)(s:Sat h (each (fun v c=>.cE v c) us cs::.arr 1 cv us::S)):
  Call ⟨Tryz.prog,told⟩ 73 [.int .i64 (kd:Int),.int .i64 (lk:Int),cv] h fun r h'=>∃b',dF b' kd lk 0 cs∧Sat h' (aP r b'::S):=by
 refine Call.of_wp (hT.free _ rfl) Tryz.func73 rfl rfl (zK 7 rfl (zc rfl (xo (kd:=kd) hT s SB) ?_))
 rintro r h ⟨u,b,rfl,hb,s⟩
 refine zk 10 rfl (zc rfl (Fz (lk:=lk) (ex:=0) hT s (aR _ _) hb yX (by decide)) ?_)
 rintro r h ⟨u2,b2,rfl,AX,s⟩
 refine zk 9 rfl (zo rfl (aV rfl rfl rfl (s.iL (n:=cs.length) (j:=3) rfl (by rw [J,c6]) (by decide) fO)) ?_)
 refine zk 2 rfl (WP.block ?_)
 refine JM hT I J cs.length 0 u2 b2 _ _ _ (by omega) AX (s.ae [0,1,1]) ⟨rfl,rfl,rfl,rfl,aa⟩ (fun v' b' E' h' xM hE s' => ?_)
 have s:=s'
 exact WP.has hE (zK 5 rfl (WP.ret ⟨aa,_,rfl,b',xM,((s.del 3).del 2).del 1⟩))
theorem Hg (J:W told)(s:Sat h (X::S))(hX:cI X (cL v b))(hl:b.length=512)(hg:bP b=false): Call ⟨Tryz.prog,told⟩ 140 [v] h fun r h'=>r=.aX [.bu,.int .i64 4]∧Sat h' (X::S):=by
 refine Call.of_wp (J.free _ rfl) Tryz.func140 rfl rfl (zK 8 rfl (zc rfl (qj J s hX (by omega)) ?_))
 rintro r h' ⟨s,(⟨I,rfl⟩ | ⟨_,rfl⟩)⟩
 ·rw [hg] at I; cases I
 refine zk 3 rfl ?_
 refine az.cr s rfl rfl rfl (ck ik) (fun p4 h s => ?_)
 refine zS rfl (s.gQ (j:=0) rfl a_ rfl rfl) (fun h s => ?_)
 refine zk 6 rfl (zt rfl (ag rfl rfl aL) (by decide) ?_)
 exact zk 8 rfl (WP.ret ⟨aa,_,rfl,rfl,s.drop⟩)
theorem JN (hT:W told)(hR:qx told N B rv A pg)(J:EI N B ε)(hN:1≤N)(hl:(pg ε 0).length=512)(hg:bP (pg ε 0)=false)(s:Sat h (A ε::S)):
  Call ⟨Tryz.prog,told⟩ 91 [rv] h fun v h'=>∃ε',v=.aX [.bu,.int .i64 0,.bool false,.int .i64 0]∧EI N B ε'∧Sm N ε ε'∧Sat h' (A ε'::S):=by
 obtain ⟨ty,u,f,rfl,hm,fT⟩:=hR.iface
 refine Call.of_wp (hT.free _ rfl) Tryz.func91 rfl rfl (zK 10 rfl (az.any rfl rfl rfl (OpR.invoke rfl rfl rfl hm rfl (fT J (by decide) (by omega) s)) ?_))
 rintro v h ⟨u,ε',rfl,I,hs,s⟩
 refine zk 10 rfl (zh rfl (ag rfl rfl aL) (rfl) (zk 6 rfl (zc rfl (Hg hT s (aR _ _) hl hg) ?_)))
 rintro v h ⟨rfl,s⟩
 refine zk 8 rfl (WP.drawn [ak,ak,ak,ak,ak,ak,ak,ak,some (0,2),some (0,2),some (0,2),ak,ak,ak,ak,ak,ak,ak,ak,ak,ak,ak] rfl (by kernel_rfl) (by kernel_rfl) ?_)
 refine zM rfl (aB.yq rfl rfl rfl rfl (ag rfl rfl aL) (by decide) ?_)
 refine zM rfl (aB.no (e:=false) rfl rfl rfl rfl (aB.no (e:=false) rfl rfl rfl rfl (aB.no (e:=false) rfl rfl rfl rfl (zO rfl (nu rfl rfl) (zM rfl (aB.no (e:=false) rfl rfl rfl rfl (aB.no (e:=false) rfl rfl rfl rfl (aB.no (e:=false) rfl rfl rfl rfl (aB.no (e:=true) rfl rfl rfl rfl (aB.no (e:=true) rfl rfl rfl rfl (aB.no (e:=false) rfl rfl rfl rfl (zO rfl (nu rfl rfl) (zM rfl (aB.no (e:=false) rfl rfl rfl rfl (aB.no (e:=false) rfl rfl rfl rfl (aB.no (e:=false) rfl rfl rfl rfl (aB.no (e:=false) rfl rfl rfl rfl (aB.no (e:=false) rfl rfl rfl rfl (zO rfl (nu rfl rfl) ?_)))))))))))))))))))
 refine aB.nil ⟨⟨aa,aa,aa,aa,aa,aa,aa,aa,fun _ _=>.inl rfl,fun _ _=>.inl rfl,fun _ _=>.inl rfl,aa,aa,aa,aa,aa,aa,aa,aa,aa,aa,aa,aa⟩,?_⟩
 exact zK 8 rfl (WP.ret ⟨aa,_,rfl,ε',rfl,I,hs,s.drop⟩)
theorem BI (hT:W told)(hR:qx told N B rv A pg)(J:EI N B ε)(hN:1≤N)(hl:(pg ε 0).length=512)(hg:bP (pg ε 0)=false)(s:Sat h (A ε::S)):
  Call ⟨Tryz.prog,told⟩ 37 [rv] h fun v h'=>∃ε',v=.aX [.bool false,.int .i64 0]∧EI N B ε'∧Sm N ε ε'∧Sat h' (A ε'::S):=by
 refine Call.of_wp (hT.free _ rfl) Tryz.func37 rfl rfl (zK 8 rfl (zc rfl (JN hT hR J hN hl hg s) ?_))
 rintro v h ⟨ε',rfl,I,hs,s⟩
 exact zk 17 rfl (WP.ret ⟨aa,_,rfl,ε',rfl,I,hs,s⟩)
end
def mZ : List Nat:=((List.replicate 375 0).set 0 1).set 0 3
theorem JO {j:Nat}: bt mZ j=decide (j<2):=by
 unfold bt mZ
 by_cases h:j/8=0
 ·have e:(((List.replicate 375 0).set 0 1).set 0 3).getD (j/8) 0=3:=by rw [h]; decide +kernel
  have k:∀i,i<8→(3:Nat).testBit i=decide (i<2):=by decide
  rw [e,k _ (by omega)]
  by_cases I:j<2
  ·rw [dr I,dr (by omega)]
  ·rw [dJ I,dJ (by omega)]
 ·have e:(((List.replicate 375 0).set 0 1).set 0 3).getD (j/8) 0=0:=by
   rw [ei,fI (by omega),fI (by omega),List.getElem?_replicate]
   split <;> rfl
  rw [e,Nat.zero_testBit,dJ (by omega)]
section
variable {told:cK} {h:H} {S:List aq} {N B K M a p q r bA:Nat} {data:List Nat} {ε:aF}
theorem JP (hB:B≤800)(gT:EI N B ε)(hN:4≤N)(SH:N≤1000)(hz:(pgA ε 0).length=512)(hg:bP (pgA ε 0)=false)(hd:tJ K M ε)(hf:K+520*N+28≤M)(s:Sat h (SA a p q r .cN data bA ε::S)):
  ∃v h2,(∃N0,∀n,N0≤n→toldDefer CB n 31 [.ptr a 0] h=some (v,h2))∧(v=.int .i64 0∧∃ε',EI N (B+2) ε'∧jq N (List.replicate 64 0) mZ (pgA ε')∧tJ (K+520*N+28) M ε'∧Sat h2 (SA a p q r .cN data bA ε'::S)):=by
 have I:=W.base
 refine Du (C:=CB) Ds rfl rfl (of_decide_eq_true (by kernel_rfl)) ?_
 refine eN.seq (eN.of_wp rfl (zr rfl (za rfl (zv (eN.seq (eN.of_wp rfl (zr rfl (zm rfl (zo rfl (qK rfl (nU uY rfl)) (zc rfl (BI I (TQ I (by omega)) gT (by omega) hz hg s) ?_))))))))))
 rintro v h ⟨va,rfl,qU,jO,s⟩
 have hd:=hd.sm jO
 have s:Sat h (dR a p q r .cN data bA::dG r p q va.1::bW q p va.2.1::bp p va.2.2::S):=cS.1 s
 refine zk 5 rfl (zv (eN.seq (eN.of_wp rfl (WP.block (zg rfl (zm rfl (zh rfl (ag rfl rfl aL) (rfl) (za rfl (zv (zj rfl (zg rfl (zk 2 rfl (zv (zj rfl (WP.skip (eN.seq (eN.of_wp rfl (zr rfl (zm rfl (zc rfl (Lm I s) ?_))))))))))))))))))))
 rintro v h' ⟨rfl,rfl⟩
 refine zc rfl (w6 I (s.ae [3])) ?_
 rintro v h' ⟨rfl,rfl⟩
 rw [qU.ec.dk.aW]
 refine za rfl (zv (eN.seq (eN.of_wp rfl (zr rfl (zm rfl (zc rfl (Dh I (n:=N) (by omega) (by omega)) ?_))))))
 rintro v h' ⟨rfl,rfl⟩
 refine za rfl (zv (eN.seq (eN.of_wp rfl (zr rfl (zm rfl (zc rfl (Bj I s) ?_))))))
 rintro v h ⟨g,rfl,s⟩
 refine zk 5 rfl (zv (eN.seq (eN.seq (eN.of_wp rfl (zr rfl (zm rfl (zh rfl (ag rfl rfl aL) (rfl) (zv (eN.of_wp rfl (zj rfl (WP.skip (eN.seq (eN.defer rfl rfl rfl rfl rfl rfl rfl rfl rfl rfl rfl rfl (eN.seq (eN.seq (eN.of_wp rfl (zr rfl (zk 2 rfl (zb rfl (by exact bB (aC (by omega) (by omega))) ?_)))))))))))))))))))
 refine zh rfl (ag rfl rfl bf) (by simp; omega) ?_
 have s:Sat h (GA g a p q r data bA [] va::S):=cS.2 s
 refine zv (eN.of_wp rfl (zj rfl (WP.skip (eN.seq (eN.seq (eN.of_wp rfl (WP.drawn [some (0,5),some (0,4),ak,ak,ak,ak,ak,ak] rfl (by kernel_rfl) (by kernel_rfl) ?_)))))))
 refine zM rfl (zM rfl (aB.any rfl rfl rfl rfl (OpR.call rfl rfl rfl rfl (Dg I s)) ?_))
 intro mv h s
 refine aB.any rfl rfl rfl rfl (OpR.yz rfl s rfl rfl rfl rfl (by decide)) ?_
 intro SI h s
 have s:=s.gR
 have Qf:(List.replicate 64 0).length=64:=eE
 have hm:=(s.aH (k:=1) rfl (dZ _ _)).cells
 have SJ:=(s.aH (k:=0) rfl (dZ _ _)).cells
 obtain ⟨cv,h1,e1,s1⟩:=N5 (P:=Tryz.prog) (x:=mv) (y:=SI) s fO nA jX rfl hm.1 SJ.1 hm.2 SJ.2
 refine aB.any rfl rfl rfl rfl (OpR.of (R:=fun v h'=>v=cv∧h'=h1) (lR rfl e1) ⟨rfl,rfl⟩) ?_
 rintro cv h ⟨rfl,rfl⟩
 have s:=(s1.ae [2,1]).two (C:=each (fun v c=>.cE v c) [mv,SI] [fR,List.replicate 64 0]) (bn.cE _ _) (bn.cE _ _) fun a b q1 q2=>⟨q1,q2,aa⟩
 generalize hR:List.replicate 64 0=R at s Qf
 refine aB.any rfl rfl rfl rfl (OpR.call rfl rfl rfl rfl (FK (kd:=201) (lk:=N) I (by decide) (by omega) (by simp only [tot,fR,aQ,bF,Qf]; decide) rfl s)) ?_
 rintro u h ⟨b0,tT,s⟩
 refine aB.any rfl rfl rfl rfl (OpR.call rfl rfl rfl rfl (vZ (i:=0) I (by omega) qU (NW.nil N) (by omega) (s.ae [1,0]) (aR _ _) tT)) ?_
 rintro v h ⟨mY,rfl,qy,oc,y6,s⟩
 have hd:=hd.sm oc
 refine zA rfl ?_
 refine aB.nil ⟨⟨fun _ _=>.inr ⟨rfl,⟨_,b_ rfl⟩,bT _ rfl⟩,fun _ _=>.inr ⟨rfl,⟨_,b_ rfl⟩,bT _ rfl⟩,aa,aa,aa,aa,aa,aa,aa⟩,?_⟩
 refine eN.seq (eN.of_wp rfl (zr rfl (zm rfl (zh rfl (ag rfl rfl aL) (rfl) (zv (eN.of_wp rfl (zj rfl (WP.skip (eN.seq (eN.seq (eN.of_wp rfl (zr rfl (za rfl (zv (eN.of_wp rfl (WP.block (WP.loop (zw (zg rfl (zk 2 rfl (zt rfl (ag rfl rfl bf) (by decide) ?_)))))))))))))))))))))
 refine zv (zi rfl (WP.skip (zw (WP.block (zg rfl (az.any rfl rfl rfl (OpR.yz rfl s rfl rfl rfl rfl (by decide)) ?_))))))
 intro mk h s
 have J:(List.replicate 375 0).length=375:=eE
 have qA:(List.replicate 375 0)[0]?=some 0:=by decide +kernel
 have Bf:mZ.length=375:=by unfold mZ; rw [b7,b7,J]
 have Qg:mZ=((List.replicate 375 0).set 0 1).set 0 3:=rfl
 have FI:∀j,bt mZ j=decide (j<2):=fun j=>JO
 generalize mZ=M0 at Bf Qg FI ⊢
 generalize List.replicate 375 0=Z at s J qA Qg
 obtain ⟨id,off,e2,e3⟩:=eB (s.buf (k:=0) rfl).view qA
 obtain ⟨JH,TU,e4,h4,e5,s2⟩:=kf s (i:=0) (b:=1) (by omega) (by decide)
 have ee:V.ptr id off=V.ptr JH TU:=by rw [e2] at e4; exact bG e4
 rw [←ee] at e5
 refine zk 8 rfl (WP.block (WP.loop (zg rfl (zt rfl (ag rfl rfl bf) (by decide) ?_))))
 refine zk 5 rfl (WP.block (zK 8 rfl (zo rfl (ag (r:=.int .i64 0) rfl rfl (by kernel_rfl)) ?_)))
 refine zm rfl (zb rfl (by exact jV (aC (by omega) (by omega))) ?_)
 refine zt rfl (ag rfl rfl gC) (by decide) ?_
 refine zk 2 rfl (WP.drawn [ak,ak,ak,ak,ak,ak,ak,ak,ak,ak,ak,ak] rfl (by kernel_rfl) (by kernel_rfl) ?_)
 refine zM rfl (zM rfl (zO rfl (ag (r:=.int .i64 0) rfl rfl (by kernel_rfl)) ?_))
 refine zO rfl (ag (r:=.int .i64 0) rfl rfl (by kernel_rfl)) ?_
 refine zO rfl (dm (r:=.ptr id off) rfl rfl e2) (zL rfl e3 (zM rfl (zO rfl (ag (r:=.int .i64 0) rfl rfl (by kernel_rfl)) ?_)))
 refine zO rfl (ag (r:=.int .u8 1) rfl rfl (by kernel_rfl)) ?_
 refine zO rfl (ag (r:=.int .u8 1) rfl rfl (by kernel_rfl)) ?_
 refine zO rfl (dm (r:=.ptr id off) rfl rfl e2) (aB.jG rfl rfl rfl (OpR.r7 rfl rfl rfl (⟨h4,e5,s2⟩)) ?_)
 rintro w h ⟨rfl,s⟩
 refine aB.nil ⟨⟨aa,aa,aa,aa,aa,aa,aa,aa,aa,aa,aa,aa,aa⟩,?_⟩
 have B8:(Z.set 0 1)[0]?=some 1:=gv (by omega)
 have Mq:(Z.set 0 1).length=375:=by rw [b7,J]
 obtain ⟨Qh,LK,e6,e7⟩:=eB (s.buf (k:=0) rfl).view B8
 obtain ⟨VM,TV,e8,h7,e9,s3⟩:=kf s (i:=0) (b:=3) (by omega) (by decide)
 have ee:V.ptr Qh LK=V.ptr VM TV:=by rw [e6] at e8; exact bG e8
 rw [←ee] at e9
 refine zr rfl (zb rfl (by exact bB (aC (by omega) (by omega))) ?_)
 refine zm rfl (zv (WP.loop (zg rfl (zt rfl (ag rfl rfl bf) (by decide) ?_))))
 refine zk 5 rfl (WP.block (zK 8 rfl (zo rfl (ag (r:=.int .i64 0) rfl rfl (by kernel_rfl)) ?_)))
 refine zm rfl (zb rfl (by exact jV (aC (by omega) (by omega))) ?_)
 refine zt rfl (ag rfl rfl gC) (by decide) ?_
 refine zk 2 rfl (WP.drawn [ak,ak,ak,ak,ak,ak,ak,ak,ak,ak,ak,ak] rfl (by kernel_rfl) (by kernel_rfl) ?_)
 refine zM rfl (zM rfl (zO rfl (ag (r:=.int .i64 1) rfl rfl (by kernel_rfl)) ?_))
 refine zO rfl (ag (r:=.int .i64 0) rfl rfl (by kernel_rfl)) ?_
 refine zO rfl (dm (r:=.ptr Qh LK) rfl rfl e6) (zL rfl e7 (zM rfl (zO rfl (ag (r:=.int .i64 1) rfl rfl (by kernel_rfl)) ?_)))
 refine zO rfl (ag (r:=.int .u8 2) rfl rfl (by kernel_rfl)) ?_
 refine zO rfl (ag (r:=.int .u8 3) rfl rfl (by kernel_rfl)) ?_
 refine zO rfl (dm (r:=.ptr Qh LK) rfl rfl e6) (aB.jG rfl rfl rfl (OpR.r7 rfl rfl rfl (⟨h7,e9,s3⟩)) ?_)
 rintro w h ⟨rfl,s⟩
 refine aB.nil ⟨⟨aa,aa,aa,aa,aa,aa,aa,aa,aa,aa,aa,aa,aa⟩,?_⟩
 rw [←Qg] at s
 refine zr rfl (zb rfl (by exact bB (aC (by omega) (by omega))) ?_)
 refine zm rfl (zv (WP.loop (zg rfl (zh rfl (ag rfl rfl bf) (by decide) ?_))))
 refine zk 3 rfl (WP.exit (zK 5 rfl ?_))
 have s:=s.gR
 have ME:=(s.aH (k:=0) rfl (dZ _ _)).cells
 obtain ⟨SK,h8,VN,s4⟩:=kg (P:=Tryz.prog) (k:=1) (x:=mk) s fO nA jX rfl (by decide) (by decide) (by rw [ME.1]; rfl) (by rw [ME.1]; simp only [iB,jB,ME.2]; rfl)
 rw [ME.1] at s4
 refine az.any rfl rfl rfl (OpR.of (R:=fun v h'=>v=SK∧h'=h8) (lR rfl VN) ⟨rfl,rfl⟩) ?_
 rintro SK h ⟨rfl,rfl⟩
 have s:=(s4.ae [1]).jH (B:=each (fun v c=>.cE v c) [mk] [M0]) fun a b q=>⟨q,aa⟩
 dsimp only [aZ,bringA] at s
 refine zc rfl (FK (kd:=202) (lk:=0) I (by decide) (by decide) (by simp only [tot,aQ,bF,Bf]; decide) rfl s) ?_
 rintro u h ⟨b1,pP,s⟩
 refine zc rfl (vZ (i:=1) I (by omega) qy y6 (by omega) (s.ae [1,0]) (aR _ _) pP) ?_
 rintro v h ⟨G8,rfl,Bn,Bo,wQ,s⟩
 dsimp only [aZ,bringA] at s
 have hd:=hd.sm Bo
 refine za rfl (zv (zg rfl (zm rfl (zh rfl (ag rfl rfl aL) (rfl) (zv (zj rfl (WP.skip (zr rfl (zm rfl (zb rfl (by exact bB (aC (by omega) (by omega))) ?_))))))))))
 refine zk 2 rfl (WP.loop (zK 5 rfl (zh rfl (ag rfl rfl bf) (by decide) ?_)))
 refine zk 2 rfl (WP.exit (eN.seq (eN.of_wp rfl (zK 2 rfl (zo rfl (cX rfl (Hf (kd:=1))) (zc rfl (LJ (kd:=1) I (by omega) Bn wQ (by omega) (by decide) (by decide) hd hf s) ?_))))))
 rintro v h ⟨aM,VO,rfl,VQ,mX,VR,s⟩
 have P_:jq N R M0 (eC (cY ((1:Nat):Int) b1 (cY ((0:Nat):Int) b0 [])) G8):=by
  refine ⟨⟨0,?_⟩,Qf,⟨202,0,0,?_⟩,Bf,by omega,by omega,fun j hj=>by rw [FI,dr hj],fun j hj=>by rw [FI,dJ (by omega)]⟩
  ·rw [gF,ai (by decide),gF,ax (by decide)]; exact tT
  ·rw [gF,ax (by decide)]; exact pP
 refine zk 4 rfl (zv (eN.seq (eN.of_wp rfl (zr rfl (zk 2 rfl (zv (eN.of_wp rfl (WP.ret ?_))))))))
 have s:=s.ae [1]
 have s:=cS.1 s
 have s:=s.ae [4]
 obtain ⟨v2,h2,A6,rfl,s⟩:=GW I s
 have s:=s.ae [1,1,1,1]
 have s:Sat h2 (SA a p q r .cN data bA VO::_):=cS.2 s
 have P8:nP 33=none:=I.free _ rfl
 exact ⟨aa,h2,_,El (C:=CB) P8 Tryz.func33 rfl rfl A6,Cw rfl,rfl,VO,VQ,P_.done wQ mX,VR,((s.del 3).del 2).del 1⟩
end
end Go.Proofs.YtefepnnfphdkpaaGreat.Am
namespace Go.Proofs.YtefepnnfphdkpaaGreat.Am
open Go Go.RowKit
def rangeParts : Code→Option (Code×Code×Nat×Operand×Array Tmp×Code×Code×Code)
 | .seq a (.seq (.seq b (.block id (.rangeFunc x ps kS bd))) t)=>some (a,b,id,x,ps,kS,bd,t)
 | _=>none
noncomputable def toldRange (C:bX)(n:Nat)(f:FuncId)(args:List V)(h:H): Option (V×H):=match C.P.funcs[f]? with
 | none=>none
 | some fn=>match fn.body with
  | none=>none
  | some code=>cond (Nat.blt fn.ntmps args.length) none (match rangeParts code with
   | none=>none
   | some (a,b,_,x,ps,kS,bd,t)=>match r5 C n a ⟨bindArgs args 0 .lf,fn.ntmps,h⟩ with
    | some (.normal,F0)=>match r5 C n b F0 with
     | some (.normal,I)=>match evO I.env x with
      | some (.fn (.func g) [] cap)=>match callF C (r5 C n) g (.tN I.h.next::cap) (I.h.new (.loop false I.au I.env ps.toList kS bd)) with
       | some (_,J)=>match T.get J.tr I.h.next with
        | some (.loop false _ _ _ _ _)=>match r5 C n t ⟨I.env,I.au,J.put I.h.next none⟩ with
         | some (.normal,s) | some (.ret,s)=>match mapO (resV C.P s) fn.results.toList with
          | some [v]=>some (v,s.h)
          | some vs=>some (.aX vs,s.h)
          | none=>none
         | _=>none
        | _=>none
       | none=>none
      | _=>none
     | _=>none
    | _=>none)
section
variable {c:Ctx} {σ:H} {w:World}
theorem Rel.other {b:Nat}{o:Go.Obj}(h:Rel c σ w)(hb:∀id,id<c.N→(c.ρ id).1≠b): Rel c σ (w.putObj b o):=by
 have get:∀i,(w.putObj b o).heap[i]?=if b=i∧b<w.heap.size then some o else w.heap[i]?:=fun i=>by
  simp only [World.putObj,iR]
  by_cases J:b=i
  ·subst J
   by_cases I:b<w.heap.size
   ·simp [I]
   ·simp [I,Array.getElem?_eq_none (nf I)]
  ·simp [J]
 have same:∀id,id<c.N→(w.putObj b o).heap[(c.ρ id).1]?=w.heap[(c.ρ id).1]?:=fun id hi=>by
  rw [get]
  simp [iD (hb id hi)]
 have rows:∀id,id<c.N→rowSize (w.putObj b o) (c.ρ id).1=rowSize w (c.ρ id).1:=fun id hi=>by unfold rowSize; rw [same id hi]
 exact ⟨h.next,h.live,fun id hi=>by simpa [World.putObj] using h.iZ id hi,fun id hi=>by rw [rows id hi]; exact h.zz id hi,h.inj,
  fun id o ho=>(h.obj id o ho).later (Ext.refl c) (h.live id o ho) (same id (h.live id o ho)),h.one,h.fx⟩
theorem Rel.endLoop {id:Nat}{busy:Bool}{au:Nat}{env:Env}{ps:List Nat}{kS bd:Code}{r:Loop}(h:Rel c σ w)(hg:σ.tr.get id=some (.loop busy au env ps kS bd)):
  Rel c (σ.put id none) (w.putObj (c.ρ id).1 (.loop r))∧bU c w c (w.putObj (c.ρ id).1 (.loop r)):=by
 obtain ⟨fn,tmps,D,hb,_⟩:=h.obj id _ hg
 have bk:(c.ρ id).1<w.heap.size:=(Array.getElem?_eq_some_iff.1 hb).1
 have get:∀i,(w.putObj (c.ρ id).1 (.loop r)).heap[i]?=if (c.ρ id).1=i then some (.loop r) else w.heap[i]?:=fun i=>by
  simp only [World.putObj,iR,bk,bz]
 have rows:∀i,rowSize (w.putObj (c.ρ id).1 (.loop r)) i=rowSize w i:=fun i=>by
  unfold rowSize
  rw [get]
  by_cases hi:(c.ρ id).1=i
  ·subst hi; simp [hb]
  ·simp [hi]
 have I:=h.kill id
 have hX:=h.sB hg (by intro _ _ he; cases he)
 refine ⟨⟨I.next,I.live,fun j hj=>by simpa [World.putObj] using I.iZ j hj,fun j hj=>by rw [rows]; exact I.zz j hj,I.inj,fun j o hj => ?_,I.one,I.fx⟩,
  ⟨Ext.refl c,by simp [World.putObj],fun b _=>rows b,fun b _ hn => ?_,fun j h1 h2=>by omega,rfl,rfl⟩⟩
 ·refine (I.obj j o hj).later (Ext.refl c) (I.live j o hj) ?_
  have J:=hj
  rw [bY] at J
  by_cases oC:j=id
  ·simp [oC] at J
  ·simp [oC] at J
   have dg:(c.ρ id).1≠(c.ρ j).1:=fun he=>oC (h.qW J hg he.symm hX)
   rw [get]
   simp [dg]
 ·rw [get]
  have:(c.ρ id).1≠b:=fun he=>by have:=hn id (h.live id _ hg) he; rw [hX] at this; cases this
  simp [this]
theorem bU.FL {c':Ctx}{w':World}{b:Nat}(h:bU c w c' w')(I:b<w.heap.size)(J:∀id,id<c.N→(c.ρ id).1≠b): (∀id,id<c'.N→(c'.ρ id).1≠b)∧w'.heap[b]?=w.heap[b]?:=by
 refine ⟨fun id hi he => ?_,h.kn b I fun id hi he=>absurd he (J id hi)⟩
 by_cases h1:id<c.N
 ·rw [h.ext.ρ id h1] at he; exact J id h1 he
 ·rcases h.fresh id (by omega) hi with h2 | ⟨j,hj,h2,_⟩
  ·omega
  ·exact J j hj (by rw [h2,he])
theorem bU.Qi {c':Ctx}{w':World}{b:Nat}{o:Go.Obj}(h:bU c w c' w')(J:w.heap.size≤b): bU c w c' (w'.putObj b o):=by
 have get:∀i,i<w.heap.size→(w'.putObj b o).heap[i]?=w'.heap[i]?:=fun i hi=>World.putObj_heap_other (by omega)
 exact ⟨h.ext,by simpa [World.putObj] using h.size,fun i hi=>by rw [←h.rows i hi]; unfold rowSize; rw [get i hi],fun i hi I=>by rw [get i hi]; exact h.kn i hi I,h.fresh,h.sys⟩
end
section
variable {C:bX} {c:Ctx} {σ:H} {w:World}
theorem cU.defers {env:Env}{n:Nat}{a:Act}(h:cU c env n a)(ds:List Deferred): cU c env n { a with defers:=ds }:=⟨h.size,h.val,h.tj⟩
theorem Dw (hm:C.P.follows .mixedOrders=true)(hT:eU C){n:Nat}{f:FuncId}{args:List V}{v:V}{dH:H}(hr:toldRange C n f args σ=some (v,dH))(h:Rel c σ w)(hw:∀x∈args,wf c x):
  fV C.P f args c w v dH:=by
 have hS:=(Cj (C:=C) hm hT n).1
 unfold toldRange at hr
 rw [pY] at hr
 split at hr
 ·cases hr
 ·rename_i fn hf
  split at hr
  ·cases hr
  ·rename_i code hb
   cases hq:Nat.blt fn.ntmps args.length with
   | true=>rw [hq] at hr; cases hr
   | false =>
    rw [hq,ay] at hr
    have hle:args.length≤fn.ntmps:=by
     rcases gZ fn.ntmps args.length with h' | h'
     ·rw [fe.2 h'] at hq; cases hq
     ·exact h'
    have mI:=kE (c:=c) hle hw
    split at hr
    ·cases hr
    ·rename_i pa pb pid px Qj kS Qk pt vb
     have RE:code=.seq pa (.seq (.seq pb (.block pid (.rangeFunc px Qj kS Qk))) pt):=by
      unfold rangeParts at vb
      split at vb
      ·simp only [aj,aA] at vb
       obtain ⟨rfl,rfl,rfl,rfl,rfl,rfl,rfl,rfl⟩:=vb
       rfl
      ·cases vb
     split at hr
     ·rename_i F0 OB
      split at hr
      ·rename_i J OC
       split at hr
       ·rename_i g cap hx
        split at hr
        ·rename_i y Ro GD
         split at hr
         ·rename_i Xh Xi SL SM SN MF
          have tail:∀ex s,ev C n pt ⟨J.env,J.au,Ro.put J.h.next none⟩=some (ex,s)→(ex=.normal∨ex=.ret) →
            (match mapO (resV C.P s) fn.results.toList with
             | some [v]=>some (v,s.h)
             | some vs=>some (.aX vs,s.h)
             | none=>none)=some (v,dH)→fV C.P f args c w v dH:=by
           intro ex s jF hex pV
           unfold fV
           refine (callsIn_wide (n:=0)).1 (callsIn_of_wp_marks (F:=Fence.wide) hf hb aa ?_ rfl)
           rw [RE]
           refine wpIn_seq (wpIn_mono (hS pa _ .normal F0 OB none c _ w h mI) ?_)
           rintro e Ca tL ⟨rfl,RP,c₁,OD,OE,j3⟩
           refine wpIn_seq (wpIn_seq (wpIn_mono (hS pb _ .normal J OC none c₁ Ca tL OD OE) ?_))
           rintro e BD I ⟨rfl,RR,c₂,MV,HL,HM⟩
           have TW:BD.defers=[]:=by rw [RR,RP]
           obtain ⟨Ql,lF⟩:=tQ HL hx
           have wT:∀z∈cap,wf c₂ z:=by
            have:dS c₂ []∧dS c₂ cap:=by simpa [wf] using lF
            exact eF.1 this.2
           have hN:J.h.next=c₂.N:=MV.next
           -- the two blocks of the loop
           obtain ⟨rA,gQ⟩:=MV.below (w':=I.alloc (.deferred (some []))) ((Below.refl _ I).alloc (aD _) _)
           have VS:(I.alloc (.deferred (some []))).heap[I.heap.size]?=some (.deferred (some [])):=World.alloc_heap_new I _
           have TX:∀id,id<c₂.N→(c₂.ρ id).1≠I.heap.size:=fun id hi he=>absurd (MV.iZ id hi) (by omega)
           refine wpIn_block (wpIn_rangeFunc (fun SO _ => ?_))
           obtain ⟨O,hO⟩:∃O:Go.Obj,O=.loop { state:=.ready,pending:=none,fn:=SO,tmps:=BD.tmps,params:=Qj,assign:=kS,body:=Qk,defers:=I.heap.size }:=⟨_,rfl⟩
           have TY:(I.alloc (.deferred (some []))).heap.size=I.heap.size+1:=World.size_alloc _ _
           have LW:objSize O=0:=by rw [hO]; rfl
           have eG:=wS rA 0 (objSize O)
           obtain ⟨rB,SP⟩:=rA.new (.loop false J.au J.env Qj.toList kS Qk) O 0 rfl (by
            refine ⟨SO,BD.tmps,I.heap.size,?_,HL.size,fun t => ?_,fun t=>(bV eG _ (HL.tj t)).2⟩
            ·rw [aN,hO]
             exact World.alloc_heap_new _ _
            ·rw [HL.val t,(bV eG _ (HL.tj t)).1])
           obtain ⟨cB,Qm⟩:∃cB,cB=c₂.grow (I.alloc (.deferred (some []))).heap.size 0 (objSize O):=⟨_,rfl⟩
           rw [←Qm] at rB SP eG
           have Qn:cB.ρ c₂.N=(I.heap.size+1,0):=by rw [Qm,aN,TY]
           have Xj:cB.N=c₂.N+1:=by rw [Qm]; rfl
           obtain ⟨kc,VT⟩:=nr hS.wide hT GD rB (by
            intro z hz
            rcases List.mem_cons.1 hz with rfl | hz
            ·simp only [wf]; omega
            ·exact (bV eG _ (wT z hz)).2)
           refine ⟨I.heap.size+1,[{ target:=.collected I.heap.size,args := #[] }],(I.alloc (.deferred (some []))).alloc O,{ target:=.fn (.func g) (cap.map (conc c₂)).toArray,args := #[.func (.yield (I.heap.size+1)) #[] #[]] },(I.alloc (.deferred (some []))).alloc O,g,
            #[.func (.yield (I.heap.size+1)) #[] #[]]++(cap.map (conc c₂)).toArray,(I.alloc (.deferred (some []))).alloc O,?_,?_,fun _ _=>trivial,?_,?_,?_⟩
           ·rw [hO]; exact run_enterLoop_outer _ _ _ _ _
           ·have jE:BD.eval px=.func (.func g) #[] (cap.map (conc c₂)).toArray:=by rw [Ql]; simp [conc,eu]
            simp only [resolve,rangeCall,jE]
            simp [go_sem,Act.eval]
           ·simp [invoke,go_sem,VT]
           ·intro hd; exact absurd hd (by decide)
           ·have vT:((V.tN J.h.next::cap).map (conc cB)).toArray = #[.func (.yield (I.heap.size+1)) #[] #[]]++(cap.map (conc c₂)).toArray:=by
             apply gz
             simp only [b8,conc,hN,Qn,(kB eG wT).1]
             simp
            unfold fV at kc
            rw [vT] at kc
            refine B_ (r:=none) (Calls.mono kc ?_)
            rintro e VU ⟨Qo,rfl,_,TZ,Qp⟩
            rw [hN] at MF
            have Wx:c₂.N<Qo.N:=TZ.live _ _ MF
            have SQ:Qo.ρ c₂.N=(I.heap.size+1,0):=by rw [Qp.ext.ρ c₂.N (by omega),Qn]
            obtain ⟨SR,MG,VV,SS,_⟩:=TZ.obj c₂.N _ MF
            rw [SQ] at SS
            refine ⟨none,_,run_endLoop SS (by simp),?_⟩
            obtain ⟨T0,Qq⟩:=TZ.endLoop (r:={ state:=.exhausted,pending:=none,fn:=SR,tmps:=MG,params:=SL.toArray,assign:=SM,body:=SN,defers:=VV }) MF
            rw [SQ] at T0 Qq
            obtain ⟨LL,Qr⟩:∃LL,LL=VU.putObj (I.heap.size+1) (.loop { state:=.exhausted,pending:=none,fn:=SR,tmps:=MG,params:=SL.toArray,assign:=SM,body:=SN,defers:=VV }):=⟨_,rfl⟩
            rw [←Qr] at T0 Qq
            -- all of it so far, pas one step
            have MH:bU c₂ I Qo LL:=((gQ.trans SP).trans Qp).trans Qq
            -- the block for the rounds' deferred calls
            have nB:∀id,id<cB.N→(cB.ρ id).1≠I.heap.size:=fun id hi=>by
             by_cases h1:id<c₂.N
             ·rw [eG.ρ id h1]; exact TX id h1
             ·have:id=c₂.N:=by omega
              rw [this,Qn]; simp
            have SU:((I.alloc (.deferred (some []))).alloc O).heap[I.heap.size]?=some (.deferred (some [])):=by
             rw [eZ,ai (by omega)]; exact VS
            have T1:I.heap.size<((I.alloc (.deferred (some []))).alloc O).heap.size:=(Array.getElem?_eq_some_iff.1 SU).1
            obtain ⟨Wy,Wz⟩:=Qp.FL T1 nB
            have VW:VU.heap[I.heap.size]?=some (.deferred (some [])):=Wz.trans SU
            have SV:LL.heap[I.heap.size]?=some (.deferred (some [])):=by rw [Qr]; exact (World.putObj_heap_other (by omega)).trans VW
            have WA:cU Qo J.env J.au { BD with defers:=[{ target:=.collected I.heap.size,args := #[] }]++BD.defers }:=(HL.ext MH.ext).defers _
            suffices MI:pt.wpIn Fence.wide 0 C.P (bodyPostM Fence.wide 0 C.P fn fun e w'=>∃c',e=.returned (conc c' v)∧wf c' v∧Rel c' dH w'∧bU c w c' w') { BD with defers:=[{ target:=.collected I.heap.size,args := #[] }]++BD.defers } LL by
             rw [Qr] at MI
             exact MI
            refine wpIn_mono (hS pt _ ex s jF none Qo _ LL (by rw [hN]; exact T0) WA) ?_
            rintro e T2 RF ⟨rfl,VX,T3,WB,WD,SW⟩
            have T4:T2.defers=[{ target:=.collected I.heap.size,args := #[] }]:=by rw [VX,TW]; rfl
            have T5:I.heap.size<LL.heap.size:=(Array.getElem?_eq_some_iff.1 SV).1
            obtain ⟨WE,WG⟩:=SW.FL T5 Wy
            have VY:RF.heap[I.heap.size]?=some (.deferred (some [])):=WG.trans SV
            have T6:Rel T3 s.h (RF.putObj I.heap.size (.deferred none)):=WB.other WE
            have C1:bU c w T3 (RF.putObj I.heap.size (.deferred none)):=(((j3.trans HM).trans MH).trans SW).Qi (cy j3.size HM.size)
            have fin:LeavesInM Fence.wide 0 C.P fn T2.tmps (fun e w'=>∃c',e=.returned (conc c' v)∧wf c' v∧Rel c' dH w'∧bU c w c' w') T2.defers .returning RF:=by
             rw [T4]
             refine ⟨by simp,.inl ⟨I.heap.size,_,rfl,run_takeDeferred VY,?_⟩⟩
             cases HV:mapO (resV C.P s) fn.results.toList with
             | none=>simp [HV] at pV
             | some vs =>
              obtain ⟨q1,q2⟩:=sJ T6 WD HV
              refine ⟨_,q1,T3,?_⟩
              rw [HV] at pV
              split at pV
              ·rename_i v0 wA
               simp only [aj] at wA
               subst wA
               simp only [aj,aA] at pV
               obtain ⟨rfl,rfl⟩:=pV
               exact ⟨by simp,q2 v0 (by simp),T6,C1⟩
              ·rename_i Xk dg wA
               simp only [aj] at wA
               subst wA
               simp only [aj,aA] at pV
               obtain ⟨rfl,rfl⟩:=pV
               refine ⟨?_,by simp only [wf,eF]; exact q2,T6,C1⟩
               rw [dif_neg]
               ·simp [conc,eu]
               ·intro er
                simp only [List.size_toArray,eP] at er
                obtain ⟨v0,rfl⟩:=List.length_eq_one_iff.1 er
                exact dg v0 rfl
              ·cases pV
            rcases hex with rfl | rfl
            ·exact fin
            ·exact fin
          split at hr
          ·rename_i s jF
           exact tail .normal s jF (.inl rfl) hr
          ·rename_i s jF
           exact tail .ret s jF (.inr rfl) hr
          ·cases hr
         ·cases hr
        ·cases hr
       ·cases hr
      ·cases hr
     ·cases hr
end
end Go.Proofs.YtefepnnfphdkpaaGreat.Am
