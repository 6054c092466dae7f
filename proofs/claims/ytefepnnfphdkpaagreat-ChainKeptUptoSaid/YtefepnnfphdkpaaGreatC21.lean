/- ChainKept: a part of its proof; conditions: its statement's. -/
import Derived.Test.YtefepnnfphdkpaaGreatC20
set_option linter.defProp false
namespace Go.Proofs.YtefepnnfphdkpaaGreat.Am
open Go
def jc:=@Tryz.underlying46
def DG:=@Tryz.underlying244
structure dn where
 bf:Int
 pos:Int
 whole:Bool
 b:List Nat
def dn.Ok (c:dn): Prop:=0≤c.bf∧c.bf<65536∧0≤c.pos∧c.pos≤512∧(c.b.length:Int)≤512-c.pos∧(c.whole=true→c.pos=0∧c.b.length=512)
instance (c:dn):Decidable c.Ok:=by unfold dn.Ok; infer_instance
def dZ (kind:Int)(bW:List dn): Bool:=decide (1≤kind∧kind≤9)&&bW.all fun c=>decide c.Ok
def nq (kd:Int)(tx pv nx:Nat)(I ch:V): List V:=[.int .i64 kd,.int .u64 (tx:Int),.int .u64 (pv:Int),.int .u64 (nx:Int),I,ch]
theorem vn {kd:Int}{tx pv nx:Nat}{I ch:V}(hd:storable I=true)(J:storable ch=true): (nq kd tx pv nx I ch).all storable=true:=by
 simp only [nq,ij,iR,hd,J]
 rfl
def dr : List V→List dn→aq
 | [],[]=>.pu True
 | p::a::w::v::l,x::m=>.an (.an (.pu (p=.int .i64 x.bf∧a=.int .i64 x.pos∧w=.bool x.whole)) (.cu v x.b)) (dr l m)
 | _,_=>.pu False
theorem aS.oK : ∀(m:List dn) (l:List V),aS (dr l m):=by
 intro m
 induction m with
 | nil=>intro l; rcases l with _ | ⟨a,_ | ⟨b,_ | ⟨c,_ | ⟨d,l⟩⟩⟩⟩ <;> exact aS.pu _
 | cons x m I=>intro l; rcases l with _ | ⟨a,_ | ⟨b,_ | ⟨c,_ | ⟨d,l⟩⟩⟩⟩ <;> first | exact aS.pu _ | exact aS.an (aS.an (aS.pu _) (aS.cu _ _)) (I l)
theorem od {a b:PM}: ∀ {m:List dn} {l:List V},(dr l m).p a b→l.length=m.length*4:=by
 intro m
 induction m with
 | nil=>intro l h; rcases l with _ | ⟨x,_ | ⟨y,_ | ⟨z,_ | ⟨d,l⟩⟩⟩⟩ <;> first | rfl | exact h.elim
 | cons x m I =>
  intro l h
  rcases l with _ | ⟨x,_ | ⟨y,_ | ⟨z,_ | ⟨d,l⟩⟩⟩⟩ <;> first | exact h.elim | skip
  have:=I h.2
  simp only [aO]
  omega
theorem xS {a b:PM}: ∀ {m m':List dn} {l I:List V},(dr l m).p a b→(dr I m').p a b→(dr (l++I) (m++m')).p a b:=by
 intro m
 induction m with
 | nil=>intro m' l I h h'; rcases l with _ | ⟨x,_ | ⟨y,_ | ⟨z,_ | ⟨d,l⟩⟩⟩⟩ <;> first | exact h' | exact h.elim
 | cons x m J =>
  intro m' l I h h'
  rcases l with _ | ⟨x,_ | ⟨y,_ | ⟨z,_ | ⟨d,l⟩⟩⟩⟩ <;> first | exact h.elim | exact ⟨h.1,J h.2 h'⟩
theorem DH {a b:PM}: ∀ {m:List dn} {l:List V} {i:Nat} {c:dn},(dr l m).p a b→m[i]?=some c→∃u,(l.drop (i*4)).take 4=[.int .i64 c.bf,.int .i64 c.pos,.bool c.whole,u]∧(aq.cu u c.b).p a b:=by
 intro m
 induction m with
 | nil=>intro l i c h I; simp at I
 | cons x m J =>
  intro l i c h I
  rcases l with _ | ⟨p,_ | ⟨q,_ | ⟨w,_ | ⟨v,l⟩⟩⟩⟩ <;> first | exact h.elim | skip
  obtain ⟨⟨⟨h1,h2,h3⟩,h4⟩,h5⟩:=h
  cases i with
  | zero=>simp at I; subst I; exact ⟨v,by rw [h1,h2,h3]; rfl,h4⟩
  | succ i =>
   simp at I
   obtain ⟨u,e1,e2⟩:=J h5 I
   refine ⟨u,?_,e2⟩
   rw [←e1,show (i+1)*4=i*4+4 by omega]
   rfl
section
variable {told:cN} {h:H} {S:List aq} {X:aq} {k q p:Nat} {v:V} {l:List Nat}
theorem JW {ch:V}{cs:List V}{m:List dn}{i:Nat}{c:dn}(s:Sat h (.arr 4 ch cs::dr cs m::S))(hc:m[i]?=some c):
  ∃id off u,indexAddrV Tryz.prog 46 ch (.int .i64 (i:Int))=some (.ptr id off)∧loadV Tryz.prog h 180 (.ptr id off)=some (.agg [.int .i64 c.bf,.int .i64 c.pos,.bool c.whole,u]) ∧
   u.cells=[u]∧storable u=true∧u.beq u=true∧Sat h (.cu u c.b::.arr 4 ch cs::dr cs m::S):=by
 obtain ⟨a,b,q1,q2,q3⟩:=s.at (k:=1) rfl
 have Dp:=(List.getElem?_eq_some_iff.1 hc).1
 have hl:=od q3
 obtain ⟨u,e1,e2⟩:=DH q3 hc
 obtain ⟨id,off,g1,J⟩:=Rg (P:=Tryz.prog) (i:=i) s (j:=0) rfl (by omega) (by decide) jc wK
 have J:=J SK
 rw [e1] at J
 have s2:Sat h (dr cs m::.arr 4 ch cs::S):=s.ae [1]
 have s3:=(s2.dup (aS.oK _ _)).hU (B:=.cu u c.b) fun a b h=>by
  obtain ⟨u',I,td⟩:=DH h hc
  rw [e1] at I
  injection I with _ I
  injection I with _ I
  injection I with _ I
  injection I with I _
  subst I
  exact td
 have hu:=(s3.aH (k:=0) rfl (dc _ _))
 exact ⟨id,off,u,g1,J,hu.cells.1,hu.cells.2,jm hu,s3.ae [0,1,0]⟩
theorem Ga {ch:V}{cs:List V}{m:List dn}{j1 j2:Nat}{P:Program}{t e:TypeId}(s:Sat h S)(I:getA S j1=some (.arr 4 ch cs))(J:getA S j2=some (dr cs m))(hu:P.underlying t=some (.slice e)): lenV P h t ch=some (.int .i64 m.length):=by
 obtain ⟨a,b,q1,q2,q3⟩:=s.at J
 exact s.dF I (od q3) (by decide) hu
theorem Sat.vo {ch:V}{cs:List V}{m:List dn}{j1 j2:Nat}{P:Program}{t e:TypeId}(s:Sat h S)(I:getA S j1=some (.arr 4 ch cs))(J:getA S j2=some (dr cs m))(hu:P.underlying t=some (.slice e)): lenV P h t ch=some (.int .i64 m.length):=Ga s I J hu
noncomputable def TT : Code:=eD [1,1,0,1,0,0] ((Tryz.f161.body).getD .skip)
theorem HP {p1:Nat}{ch:V}{cs:List V}{m:List dn}: ∀(j i:Nat) (h:H) (E:List (Nat×V)) (Q:Ex→List (Nat×V)→H→Prop),i+j=m.length→m.length<4294967296→(∀c∈m,c.b.length<9223372036854775808) →
  (∀c∈m, -4294967296≤c.pos∧c.pos≤4294967296)→Sat h (.arr 4 ch cs::dr cs m::S)→Has E [(1,.ptr p1 0),(14,ch),(15,.int .i64 m.length),(16,.int .i64 i)] →
  ((m.drop i).all (fun c=>decide c.Ok)=false→∀E' h',look E' 2=some (.bool false)→Sat h' (.arr 4 ch cs::dr cs m::S)→Q .ret E' h') →
  ((m.drop i).all (fun c=>decide c.Ok)=true→∀E' h',Sat h' (.arr 4 ch cs::dr cs m::S)→Q (.exit 0) E' h')→WP ⟨Tryz.prog,told⟩ 61 (.loop TT) E h Q:=by
 intro j
 induction j with
 | zero =>
  intro i h E Q hi hm hb J s hE hr hx
  refine WP.loop (WP.has hE (zg rfl (zh rfl (ag rfl rfl aP) (by simp; omega) ?_)))
  exact zk 3 rfl (WP.exit (hx (by rw [gy (by omega)]; rfl) _ _ s))
 | succ j ih =>
  intro i h E Q hi hm hb J s hE hr hx
  have hc:m[i]?=some (m[i]'(by omega)):=aN _
  generalize (m[i]'(by omega))=c at hc
  have JX:=aY hc
  have TU:=hb c JX
  have WV:=J c JX
  have pI:m.drop i=c::m.drop (i+1):=by
   have:=List.getElem?_eq_some_iff.1 hc
   obtain ⟨h1,rfl⟩:=this
   exact r9 h1
  rw [pI,ij] at hr hx
  obtain ⟨id,off,u,e1,e2,u1,u2,u3,s⟩:=JW s hc
  refine WP.loop (WP.has hE (zg rfl (zt rfl (ag rfl rfl aP) (by simp; omega) ?_)))
  refine zk 5 rfl (WP.block (zg rfl (zo rfl (cx (r:=.ptr id off) rfl rfl e1) (zl rfl e2 ?_))))
  refine az.cG s rfl rfl rfl (cA rF) (fun p4 h s => ?_)
  dsimp only [V.cells,List.length_cons,List.length_nil,Nat.reduceAdd] at s
  refine zS rfl (s.hG (j:=0) rfl wK rfl (by simp only [ij,iR,u2]; rfl)) ?_
  intro h s
  dsimp only [setA] at s
  refine zk 4 rfl (zf rfl (Bf _ _) (zl rfl (s.ld (k:=0) rfl dY rfl) ?_))
  refine zd rfl (ag rfl rfl aP) ?_ ?_
  ·intro qZ
   have qZ:c.bf<0:=by simp at qZ; omega
   exact zk 30 rfl (WP.ret (hr (by rw [dQ (fun q:c.Ok=>by have:=q.1; omega),fU]) _ _ rfl s.drop.drop))
  ·intro qZ
   have qZ:¬ (c.bf<0):=by simp at qZ; omega
   refine zm rfl (zf rfl (Bf _ _) (zl rfl (s.ld (k:=0) rfl dY rfl) ?_))
   refine zd rfl (ag rfl rfl u_) ?_ ?_
   ·intro z7
    have z7:65536≤c.bf:=by simp at z7; omega
    exact zk 26 rfl (WP.ret (hr (by rw [dQ (fun q:c.Ok=>by have:=q.2.1; omega),fU]) _ _ rfl s.drop.drop))
   ·intro z7
    have z7:¬ (65536≤c.bf):=by simp at z7; omega
    refine zk 2 rfl (zf rfl (qg _ _) (zl rfl (s.ld (k:=0) rfl dY rfl) ?_))
    refine zd rfl (ag rfl rfl aP) ?_ ?_
    ·intro gj
     have gj:c.pos<0:=by simp at gj; omega
     exact zk 21 rfl (WP.ret (hr (by rw [dQ (fun q:c.Ok=>by have:=q.2.2.1; omega),fU]) _ _ rfl s.drop.drop))
    ·intro gj
     have gj:¬ (c.pos<0):=by simp at gj; omega
     refine zk 2 rfl (zf rfl (qg _ _) (zl rfl (s.ld (k:=0) rfl dY rfl) ?_))
     refine zd rfl (ag rfl rfl h_) ?_ ?_
     ·intro JY
      have JY:512<c.pos:=by simp at JY; omega
      exact zk 16 rfl (WP.ret (hr (by rw [dQ (fun q:c.Ok=>by have:=q.2.2.2.1; omega),fU]) _ _ rfl s.drop.drop))
     ·intro JY
      have JY:¬ (512<c.pos):=by simp at JY; omega
      refine zk 2 rfl (zf rfl (qh _ _) (zl rfl (s.ld (k:=0) rfl bN rfl) (zo rfl (aM rfl rfl rfl (aW aG (s.aH (k:=1) rfl (dc _ _)))) (zf rfl (qg _ _) (zl rfl (s.ld (k:=0) rfl dY rfl) (zb rfl (by exact jF (aA (by omega) (by omega))) ?_))))))
      refine zd rfl (ag rfl rfl h_) ?_ ?_
      ·intro mQ
       have mQ:512-c.pos<(c.b.length:Int):=by simp at mQ; omega
       exact zk 7 rfl (WP.ret (hr (by rw [dQ (fun q:c.Ok=>by have:=q.2.2.2.2.1; omega),fU]) _ _ rfl s.drop.drop))
      ·intro mQ
       have mQ:¬ (512-c.pos<(c.b.length:Int)):=by simp at mQ; omega
       refine zk 6 rfl (zf rfl (F0 _ _) ?_)
       have o9:∀(h:H) (E:List (Nat×V)),c.Ok→Sat h (.arr 4 ch cs::dr cs m::S)→Has E [(1,.ptr p1 0),(14,ch),(15,.int .i64 m.length),(16,.int .i64 ((i:Int)+1))]→WP ⟨Tryz.prog,told⟩ 61 (.loop TT) E h Q:=by
        intro h E vp s hE
        rw [dy vp,v7] at hr hx
        exact ih (i+1) h E Q (by omega) hm hb J s hE hr hx
       have IK:c.whole=false∨c.whole=true:=by cases c.whole <;> simp
       rcases IK with hw | hw
       ·skip
        refine zh rfl (aU rfl (by exact s.ld (k:=0) rfl nD rfl)) (hw) ?_
        refine zk 11 rfl (zv (zj rfl (WP.skip (zr rfl (zb rfl (by exact bk (aA (by omega) (by omega))) ?_)))))
        refine zm rfl (zv ?_)
        refine o9 _ _ ?_ ?_ ?_
        ·exact ⟨by omega,by omega,by omega,by omega,by omega,fun e=>by rw [hw] at e; cases e⟩
        ·exact s.drop.drop
        ·exact ⟨rfl,rfl,rfl,rfl,aa⟩
       ·skip
        refine zt rfl (aU rfl (s.ld (k:=0) rfl nD rfl)) (hw) (zm rfl (zf rfl (qg _ _) (zl rfl (s.ld (k:=0) rfl dY rfl) ?_)))
        refine zd rfl (ag rfl rfl aJ) ?_ ?_
        ·intro hp
         have hp:c.pos≠0:=by simp at hp; omega
         exact zk 13 rfl (WP.ret (hr (by rw [dQ (fun q:c.Ok=>hp (q.2.2.2.2.2 hw).1),fU]) _ _ rfl s.drop.drop))
        ·intro hp
         have hp:c.pos=0:=by simp at hp; omega
         refine zm rfl (zf rfl (qh _ _) (zl rfl (s.ld (k:=0) rfl bN rfl) (zo rfl (aM rfl rfl rfl (aW aG (s.aH (k:=1) rfl (dc _ _)))) ?_)))
         refine zd rfl (ag rfl rfl aJ) ?_ ?_
         ·intro I
          have I:c.b.length≠512:=by simp at I; omega
          exact zk 8 rfl (WP.ret (hr (by rw [dQ (fun q:c.Ok=>I (q.2.2.2.2.2 hw).2),fU]) _ _ rfl s.drop.drop))
         ·intro I
          have I:c.b.length=512:=by simp at I; omega
          refine zk 2 rfl (zv (zj rfl (WP.skip (zr rfl (zb rfl (by exact bk (aA (by omega) (by omega))) ?_)))))
          refine zm rfl (zv ?_)
          refine o9 _ _ ?_ ?_ ?_
          ·exact ⟨by omega,by omega,by omega,by omega,by omega,fun _=>⟨hp,I⟩⟩
          ·exact s.drop.drop
          ·exact ⟨rfl,rfl,rfl,rfl,aa⟩
def z8 (m:List dn): Prop:=m.length<4294967296∧(∀c∈m,c.b.length<4294967296)∧(∀c∈m, -4294967296≤c.pos∧c.pos≤4294967296)
theorem L5 (hT:W told){kd:Int}{tx pv nx:Nat}{dt ch:V}{cs:List V}{m:List dn}(s:Sat h (.arr 4 ch cs::dr cs m::S))(hd:storable dt=true)(hm:z8 m):
  Call ⟨Tryz.prog,told⟩ 161 [.agg (nq kd tx pv nx dt ch)] h fun r h'=>r=.bool (dZ kd m)∧Sat h' (.arr 4 ch cs::dr cs m::S):=by
 have rJ:=s.kY (j:=0) rfl
 have jZ:=vn (kd:=kd) (tx:=tx) (pv:=pv) (nx:=nx) hd rJ.2.1
 refine Call.of_wp (hT.free _ rfl) Tryz.func161 rfl rfl (zg rfl (az.cG s rfl rfl rfl (fO rfl jZ) ?_))
 intro p1 h s
 refine zk 5 rfl (zf rfl (vb _ _) (zl rfl (s.ld (k:=0) rfl dY rfl) ?_))
 refine zd rfl (ag rfl rfl aP) ?_ ?_
 ·intro J
  have J:kd<1:=by simpa using J
  exact zk 11 rfl (WP.ret ⟨aa,_,rfl,by rw [dZ,dQ (by omega),fU],s.drop⟩)
 ·intro J
  have J:1≤kd:=by simpa using J
  refine zm rfl (zf rfl (vb _ _) (zl rfl (s.ld (k:=0) rfl dY rfl) ?_))
  refine zd rfl (ag rfl rfl h_) ?_ ?_
  ·intro I
   have I:9<kd:=by simpa using I
   exact zk 7 rfl (WP.ret ⟨aa,_,rfl,by rw [dZ,dQ (by omega),fU],s.drop⟩)
  ·intro I
   have I:kd≤9:=by simpa using I
   refine zk 7 rfl (zf rfl (qC _ _) (zl rfl (s.ld (k:=0) rfl Ba rfl) (zo rfl (aM rfl rfl rfl (Ga s (j1:=1) (j2:=2) rfl rfl jc)) (zk 2 rfl (WP.block ?_)))))
   have hg:dZ kd m=m.all (fun c=>decide c.Ok):=by rw [dZ,dy ⟨J,I⟩,v7]
   refine HP m.length 0 _ _ _ (by omega) hm.1 (fun c hc=>by have:=hm.2.1 c hc; omega) hm.2.2 s.drop ⟨rfl,rfl,rfl,rfl,aa⟩ (fun hf E' h' h2 s' => ?_) (fun hf E' h' s' => ?_)
   ·rw [hg]
    rw [eS] at hf
    rw [hf]
    exact ⟨aa,_,Dd h2,rfl,s'⟩
   ·rw [hg]
    rw [eS] at hf
    rw [hf]
    exact WP.has (F:=[]) aa (zK 4 rfl (WP.ret ⟨aa,_,rfl,rfl,s'⟩))
end
def k9 (c:dn): List Nat:=digits 9 c.bf.toNat++digits 9 c.pos.toNat++[if c.whole then 1 else 0]++(digits 9 c.b.length++c.b)
def eE (kd:Int)(tx pv nx:Nat)(data:List Nat)(bW:List dn): List Nat :=
 [kd.toNat]++digits 9 tx++digits 9 pv++digits 9 nx++(digits 9 data.length++data)++digits 9 bW.length++bW.flatMap k9
section
variable {told:cN} {h:H} {S:List aq} {X:aq} {k q p:Nat} {v w:V} {l m:List Nat}
theorem mR (I:W told){n:Nat}(s:Sat h (aR v l::S))(hn:n<18446744073709551616)(hl:l.length≤140737488355000):
  Call ⟨Tryz.prog,told⟩ 176 [v,.int .u64 (n:Int)] h fun r h'=>Sat h' (aR r (l++digits 9 n)::S) :=
 (BZ I.NF (k:=9) s.wf (s.buf (k:=0) rfl) (by omega) (by omega) (by omega)).mono fun _ _ ⟨J,h2,h3⟩=>s.wD h2 J h3
theorem Br (hT:W told)(s:Sat h (aR v l::X::S))(I:cO X (cR w m))(hl:l.length+m.length≤140737488355000):
  Call ⟨Tryz.prog,told⟩ 177 [v,w] h fun r h'=>Sat h' (aR r (l++(digits 9 m.length++m))::X::S) :=
 (OO hT.NF (k:=9) s.wf (s.buf (k:=0) rfl) (s.aH (k:=1) rfl I) (s.Rh I) (by omega) (by omega) (by omega)).mono fun _ _ ⟨J,h2,h3⟩=>by
  rw [eu] at J
  exact s.wD h2 J h3
noncomputable def TV : Code:=eD [1,1,1,1,0,1,0,0] ((Tryz.f162.body).getD .skip)
theorem JZ (hT:W told){p1:Nat}{ch:V}{cs:List V}{bW:List dn}(vp:∀c∈bW,c.Ok)(J:z8 bW): ∀(j i:Nat) (sv:V) (l:List Nat) (h:H) (E:List (Nat×V)) (Q:Ex→List (Nat×V)→H→Prop),i+j=bW.length →
  l.length+((bW.drop i).flatMap k9).length≤140737488355000 →
  Sat h (aR sv l::.arr 4 ch cs::dr cs bW::S)→Has E [(1,.ptr p1 0),(3,sv),(37,ch),(38,.int .i64 bW.length),(39,.int .i64 i)] →
  (∀E' h' I,look E' 3=some I→Sat h' (aR I (l++(bW.drop i).flatMap k9)::.arr 4 ch cs::dr cs bW::S)→Q (.exit 2) E' h')→WP ⟨Tryz.prog,told⟩ 63 (.loop TV) E h Q:=by
 intro j
 induction j with
 | zero =>
  intro i sv l h E Q hi hlen s hE hx
  have hm:=J.1
  refine WP.loop (WP.has hE (zg rfl (zh rfl (ag rfl rfl aP) (by simp; omega) ?_)))
  refine zk 3 rfl (WP.exit (hx _ _ sv rfl ?_))
  rw [gy (by omega)]
  simpa using s
 | succ j ih =>
  intro i sv l h E Q hi hlen s hE hx
  have hm:=J.1
  have hc:bW[i]?=some (bW[i]'(by omega)):=aN _
  generalize (bW[i]'(by omega))=c at hc
  have JX:=aY hc
  have Vc:=vp c JX
  have TU:=J.2.1 c JX
  have pI:bW.drop i=c::bW.drop (i+1):=by
   obtain ⟨h1,rfl⟩:=List.getElem?_eq_some_iff.1 hc
   exact r9 h1
  rw [pI,sB] at hlen hx
  obtain ⟨pg,ps,wh,bb⟩:=c
  obtain ⟨q1,q2,q3,q4,_⟩:=Vc
  dsimp only at q1 q2 q3 q4 TU
  obtain ⟨pg,rfl⟩:∃n:Nat,pg=n:=⟨pg.toNat,by omega⟩
  obtain ⟨ps,rfl⟩:∃n:Nat,ps=n:=⟨ps.toNat,by omega⟩
  have L6:k9 ⟨pg,ps,wh,bb⟩=digits 9 pg++digits 9 ps++[if wh then 1 else 0]++(digits 9 bb.length++bb):=by simp [k9]
  have FJ:(k9 ⟨pg,ps,wh,bb⟩).length=(digits 9 pg).length+(digits 9 ps).length+1+(digits 9 bb.length).length+bb.length:=by rw [L6]; simp; omega
  rw [bD,FJ] at hlen
  obtain ⟨id,off,u,e1,e2,u1,u2,u3,s⟩:=JW (s.ae [1,1]) hc
  dsimp only at e2
  have s:=s.ae [3,0,0,0]
  dsimp only [aV,bringA,getA] at s
  refine WP.loop (WP.has hE (zg rfl (zt rfl (ag rfl rfl aP) (by simp; omega) ?_)))
  refine zk 5 rfl (WP.block (zg rfl (zo rfl (cx (r:=.ptr id off) rfl rfl e1) (zl rfl e2 ?_))))
  refine az.cG s rfl rfl rfl (cA rF) (fun p7 h s => ?_)
  dsimp only [V.cells,List.length_cons,List.length_nil,Nat.reduceAdd] at s
  refine zS rfl (s.hG (j:=0) rfl wK rfl (by simp only [ij,iR,u2]; rfl)) ?_
  intro h s
  dsimp only [setA] at s
  refine zk 2 rfl ?_
  have s:=s.ae [1,0]
  dsimp only [bringA,getA,aV] at s
  have s0:=s
  refine WP.drawn [ak,ak,ak,ak,ak,some (0,2),some (0,2),some (0,2),none,none] rfl (by kernel_rfl) (by kernel_rfl) ?_
  refine zM rfl (zF rfl (Bf _ _) (zL rfl (s.ld (k:=1) rfl dY rfl) (aC.op rfl rfl rfl (by simp only [isEff,dm]) (cF rfl (by exact ke bO dm (gq (by omega) (by omega)))) ?_)))
  refine aC.any rfl rfl rfl rfl (OpR.call rfl rfl rfl rfl (mR hT s (by omega) (by omega))) ?_
  intro v1 h s
  have s1:=s
  refine zF rfl (qg _ _) (zL rfl (s.ld (k:=1) rfl dY rfl) (aC.op rfl rfl rfl (by simp only [isEff,dm]) (cF rfl (by exact ke bO dm (gq (by omega) (by omega)))) ?_))
  refine aC.any rfl rfl rfl rfl (OpR.call rfl rfl rfl rfl (mR hT s (by omega) (by simp; omega))) ?_
  intro v2 h s
  refine zA rfl ?_
  refine aC.nil ⟨⟨aa,aa,aa,aa,aa,fun _ _=>.inr ⟨rfl,⟨_,nZ rfl (qg _ _)⟩,bS _ rfl⟩,ff (.inr ⟨rfl,⟨_,aU rfl (s0.ld (k:=1) rfl dY rfl)⟩,bS _ rfl⟩) (.inr ⟨rfl,⟨_,aU rfl (s1.ld (k:=1) rfl dY rfl)⟩,bS _ rfl⟩),fun _ _=>.inr ⟨rfl,⟨_,cF rfl (by exact ke bO dm (gq (by omega) (by omega)))⟩,bS _ rfl⟩,aa,aa,aa⟩,?_⟩
  have Rq:∀(h:H) (E:List (Nat×V)) (I:V),Sat h (aR I (l++k9 ⟨pg,ps,wh,bb⟩)::.arr 4 ch cs::dr cs bW::S)→Has E [(1,.ptr p1 0),(3,I),(37,ch),(38,.int .i64 bW.length),(39,.int .i64 ((i:Int)+1))]→WP ⟨Tryz.prog,told⟩ 63 (.loop TV) E h Q:=by
   intro h E I s hE
   refine ih (i+1) I _ h E Q (by omega) (by rw [bD,FJ]; omega) s hE (fun E' h' WW yL s'=>hx E' h' WW yL ?_)
   rw [eu] at s'
   exact s'
  have J0:=fc 9 pg
  have Y3:=fc 9 ps
  refine zK 7 rfl (zf rfl (F0 _ _) ?_)
  have IK:wh=false∨wh=true:=by cases wh <;> simp
  rcases IK with hw | hw
  ·skip
   refine zh rfl (aU rfl (s.ld (k:=1) rfl nD rfl)) (hw) (zk 3 rfl ?_)
   have s0:=s
   have xq:=jm (s.buf (k:=0) rfl).view
   refine WP.drawn [some (0,2),ak,ak,ak,some (0,3),some (0,3),none,none] rfl (by kernel_rfl) (by kernel_rfl) ?_
   refine zM rfl (zM rfl (aC.any rfl rfl rfl rfl (OpR.CA (n:=0) rfl s rfl rfl rfl (by decide)) ?_))
   intro v3 h s
   have s:=s.ae [1,1,0]
   dsimp only [bringA,getA,aV] at s
   have s1:=s
   refine aC.any rfl rfl rfl rfl (OpR.ni rfl (s.ae [0,1]) (aX _ _) rfl rfl rfl rfl (by simp; omega)) ?_
   intro v4 h s
   have s:=s.del 1
   dsimp only [aV,bringA] at s
   have s2:=s
   refine zF rfl (qh _ _) (zL rfl (s.ld (k:=1) rfl bN rfl) (aC.any rfl rfl rfl rfl (OpR.call rfl rfl rfl rfl (Br hT (s.ae [0,1]) (dc _ _) (by simp; omega))) ?_))
   intro v5 h s
   dsimp only [aV,bringA] at s
   refine zA rfl ?_
   refine aC.nil ⟨⟨fun _ _=>.inr ⟨rfl,⟨_,cg rfl⟩,xq⟩,aa,aa,aa,fun _ _=>.inr ⟨rfl,⟨_,nZ rfl (qh _ _)⟩,bS _ rfl⟩,qA (.inr ⟨rfl,⟨_,aU rfl (s0.ld (k:=1) rfl bN rfl)⟩,u3⟩) (.inr ⟨rfl,⟨_,aU rfl (s1.ld (k:=1) rfl bN rfl)⟩,u3⟩) (.inr ⟨rfl,⟨_,aU rfl (s2.ld (k:=1) rfl bN rfl)⟩,u3⟩),aa,aa,aa⟩,?_⟩
   refine zr rfl (zb rfl (by exact bk (aA (by omega) (by omega))) ?_)
   refine zm rfl (zv ?_)
   refine Rq _ _ v5 ?_ ?_
   ·rw [L6,hw]
    have s:=(s.del 1).del 1
    dsimp only [aV] at s
    simpa [eu] using s
   ·exact ⟨rfl,rfl,rfl,rfl,rfl,aa⟩
  ·skip
   refine zt rfl (aU rfl (s.ld (k:=1) rfl nD rfl)) (hw) (zk 5 rfl ?_)
   have s0:=s
   have xq:=jm (s.buf (k:=0) rfl).view
   refine WP.drawn [some (0,2),ak,ak,ak,some (0,3),some (0,3),none,none] rfl (by kernel_rfl) (by kernel_rfl) ?_
   refine zM rfl (zM rfl (aC.any rfl rfl rfl rfl (OpR.CA (n:=1) rfl s rfl rfl rfl (by decide)) ?_))
   intro v3 h s
   have s:=s.ae [1,1,0]
   dsimp only [bringA,getA,aV] at s
   have s1:=s
   refine aC.any rfl rfl rfl rfl (OpR.ni rfl (s.ae [0,1]) (aX _ _) rfl rfl rfl rfl (by simp; omega)) ?_
   intro v4 h s
   have s:=s.del 1
   dsimp only [aV,bringA] at s
   have s2:=s
   refine zF rfl (qh _ _) (zL rfl (s.ld (k:=1) rfl bN rfl) (aC.any rfl rfl rfl rfl (OpR.call rfl rfl rfl rfl (Br hT (s.ae [0,1]) (dc _ _) (by simp; omega))) ?_))
   intro v5 h s
   dsimp only [aV,bringA] at s
   refine zA rfl ?_
   refine aC.nil ⟨⟨fun _ _=>.inr ⟨rfl,⟨_,cg rfl⟩,xq⟩,aa,aa,aa,fun _ _=>.inr ⟨rfl,⟨_,nZ rfl (qh _ _)⟩,bS _ rfl⟩,qA (.inr ⟨rfl,⟨_,aU rfl (s0.ld (k:=1) rfl bN rfl)⟩,u3⟩) (.inr ⟨rfl,⟨_,aU rfl (s1.ld (k:=1) rfl bN rfl)⟩,u3⟩) (.inr ⟨rfl,⟨_,aU rfl (s2.ld (k:=1) rfl bN rfl)⟩,u3⟩),aa,aa,aa⟩,?_⟩
   refine zr rfl (zb rfl (by exact bk (aA (by omega) (by omega))) ?_)
   refine zm rfl (zv ?_)
   refine Rq _ _ v5 ?_ ?_
   ·rw [L6,hw]
    have s:=(s.del 1).del 1
    dsimp only [aV] at s
    simpa [eu] using s
   ·exact ⟨rfl,rfl,rfl,rfl,rfl,aa⟩
theorem L7 (J:W told){kd:Nat}{tx pv nx:Nat}{dt ch:V}{cs:List V}{data:List Nat}{bW:List dn}(s:Sat h (X::.arr 4 ch cs::dr cs bW::S))(hX:cO X (cR dt data))(hg:dZ kd bW=true)(I:z8 bW)
 (J1:tx<18446744073709551616)(NL:pv<18446744073709551616)(B0:nx<18446744073709551616)(hlen:data.length+(bW.flatMap k9).length≤70368744177664):
  Call ⟨Tryz.prog,told⟩ 162 [.agg (nq kd tx pv nx dt ch)] h fun r h'=>Sat h' (aR r (eE kd tx pv nx data bW)::X::.arr 4 ch cs::dr cs bW::S):=by
 have rJ:=s.kY (j:=1) rfl
 have ur:=s.aH (k:=0) rfl hX
 have Da:=jm ur
 have jZ:=vn (kd:=kd) (tx:=tx) (pv:=pv) (nx:=nx) ur.cells.2 rJ.2.1
 have hk:1≤kd∧kd≤9:=by simp [dZ] at hg; omega
 have vp:∀c∈bW,c.Ok:=by
  simp only [dZ,aI,nM,dx] at hg
  exact hg.2
 have hm:=I.1
 have h1:=fc 9 tx
 have h2:=fc 9 pv
 have h3:=fc 9 nx
 have h4:=fc 9 data.length
 have h5:=fc 9 bW.length
 refine Call.of_wp (J.free _ rfl) Tryz.func162 rfl rfl (zg rfl (az.cG s rfl rfl rfl (fO rfl jZ) ?_))
 intro p1 h s
 dsimp only [V.cells] at s
 refine zk 4 rfl (zf rfl (vb _ _) (zl rfl (s.ld (k:=0) rfl dY rfl) (zo rfl (cF rfl (by exact ke bO Tryz.underlying5 (zB (by omega) (by omega)))) ?_)))
 refine az.any rfl rfl rfl (OpR.CA (n:=kd) rfl s rfl rfl rfl (by omega)) ?_
 intro v3 h s
 refine zk 5 rfl (zf rfl (Q8 _ _) (zl rfl (s.ld (k:=1) rfl nf rfl) (zf rfl (Q9 _ _) (zl rfl (s.ld (k:=1) rfl nf rfl) (zf rfl (Q_ _ _) (zl rfl (s.ld (k:=1) rfl nf rfl) (zo rfl (cW rfl (by rw [SU]; rfl)) ?_)))))))
 refine zk 2 rfl (WP.block (WP.loop (zg rfl (zt rfl (ag rfl rfl aP) (by decide) ?_))))
 refine zk 5 rfl (WP.block (zg rfl (zo rfl (Hg rfl rfl (r:=.int .u64 (tx:Int)) (by simp only [indexV,DG,Hr,o6,nf]; rfl)) ?_)))
 refine zk 5 rfl (zc rfl (mR J s (by omega) (by simp only [bD,aO,bB]; omega)) ?_)
 intro v3 h s
 refine za rfl (zv (zr rfl (zb rfl (by exact bk (aA (by omega) (by omega))) ?_)))
 refine zm rfl (zv (WP.loop (zg rfl (zt rfl (ag rfl rfl aP) (by decide) ?_))))
 refine zk 5 rfl (WP.block (zg rfl (zo rfl (Hg rfl rfl (r:=.int .u64 (pv:Int)) (by simp only [indexV,DG,Hr,o6,nf]; rfl)) ?_)))
 refine zk 5 rfl (zc rfl (mR J s (by omega) (by simp only [bD,aO,bB]; omega)) ?_)
 intro v3 h s
 refine za rfl (zv (zr rfl (zb rfl (by exact bk (aA (by omega) (by omega))) ?_)))
 refine zm rfl (zv (WP.loop (zg rfl (zt rfl (ag rfl rfl aP) (by decide) ?_))))
 refine zk 5 rfl (WP.block (zg rfl (zo rfl (Hg rfl rfl (r:=.int .u64 (nx:Int)) (by simp only [indexV,DG,Hr,o6,nf]; rfl)) ?_)))
 refine zk 5 rfl (zc rfl (mR J s (by omega) (by simp only [bD,aO,bB]; omega)) ?_)
 intro v3 h s
 refine za rfl (zv (zr rfl (zb rfl (by exact bk (aA (by omega) (by omega))) ?_)))
 refine zm rfl (zv (WP.loop (zg rfl (zh rfl (ag rfl rfl aP) (by decide) ?_))))
 refine zk 3 rfl (WP.exit (zw ?_))
 have s0:=s
 have uJ:=jm (s.buf (k:=0) rfl).view
 refine WP.drawn [ak,ak,ak,ak,some (0,2),some (0,2),some (0,2),some (0,2),none,none] rfl (by kernel_rfl) (by kernel_rfl) ?_
 refine zM rfl (zF rfl (Ra _ _) (zL rfl (s.ld (k:=1) rfl bN rfl) (aC.any rfl rfl rfl rfl (OpR.call rfl rfl rfl rfl (Br J (s.ae [0,1]) hX (by simp only [bD,aO,bB]; omega))) ?_)))
 intro v4 h s
 have s:=s.ae [0,1,0]
 have s1:=s
 refine zF rfl (qC _ _) (zL rfl (s.ld (k:=1) rfl Ba rfl) (zO rfl (aM rfl rfl rfl (s.vo (j1:=3) (j2:=4) rfl rfl jc)) (aC.op rfl rfl rfl (by simp only [isEff,dm]) (cF rfl (by exact ke bO dm (gq (by omega) (by omega)))) ?_)))
 refine aC.any rfl rfl rfl rfl (OpR.call rfl rfl rfl rfl (mR J s (by omega) (by simp only [bD,aO,bB]; omega))) ?_
 intro v5 h s
 refine zA rfl ?_
 refine aC.nil ⟨⟨aa,aa,aa,aa,fun _ _=>.inr ⟨rfl,⟨_,nZ rfl (qC _ _)⟩,bS _ rfl⟩,ff (.inr ⟨rfl,⟨_,aU rfl (s0.ld (k:=1) rfl Ba rfl)⟩,rJ.2.2⟩) (.inr ⟨rfl,⟨_,aU rfl (s1.ld (k:=1) rfl Ba rfl)⟩,rJ.2.2⟩),ff (.inr ⟨rfl,⟨_,aM rfl rfl rfl (s0.vo (j1:=3) (j2:=4) rfl rfl jc)⟩,bS _ rfl⟩) (.inr ⟨rfl,⟨_,aM rfl rfl rfl (s1.vo (j1:=3) (j2:=4) rfl rfl jc)⟩,bS _ rfl⟩),fun _ _=>.inr ⟨rfl,⟨_,cF rfl (by exact ke bO dm (gq (by omega) (by omega)))⟩,bS _ rfl⟩,aa,aa,aa⟩,?_⟩
 refine zK 3 rfl (zf rfl (qC _ _) (zl rfl (s.ld (k:=1) rfl Ba rfl) (zo rfl (aM rfl rfl rfl (s.vo (j1:=3) (j2:=4) rfl rfl jc)) (zk 2 rfl (WP.block ?_)))))
 have s:=s.ae [0,2,2,1]
 refine JZ J vp I bW.length 0 v5 _ _ _ _ (by omega) (by rw [eS]; simp only [bD,aO,bB]; omega) s ⟨rfl,rfl,rfl,rfl,rfl,aa⟩ (fun E' h' B1 k8 s' => ?_)
 refine WP.has (F:=[(3,B1)]) ⟨k8,aa⟩ (zK 5 rfl (WP.ret ⟨aa,_,rfl,?_⟩))
 have TW:=(s'.ae [0,2,0,0]).del 4
 dsimp only [List.cons_append,List.nil_append,List.drop,aV,bringA,getA] at TW
 simpa [eE,eu] using TW
end
def oT (aQ:Nat)(b:List Nat): List Nat:=le 4 b.length++le 4 (zV aQ b)++b
theorem tT (aQ:Nat)(b:List Nat): (oT aQ b).length=8+b.length:=by simp [oT,dG]; omega
theorem og : ∃i,Tryz.prog.info? 3=some i∧i.size=1∧i.bytes=8 :=
 ⟨_,(show Tryz.prog.info? 3=some ((Tryz.prog.info? 3).getD default) by kernel_rfl),by kernel_rfl,by kernel_rfl⟩
section
variable {told:cN} {h:H} {S:List aq} {X:aq} {k q p:Nat} {v w:V} {l m:List Nat} {μ:Lg} {δ:Dk}
theorem J2 (I:W told){n:Nat}(s:Sat h S)(J:getA S k=some X)(hX:cO X (cR v l))(hl:l.length≤4611686018427387904):
  Call ⟨Tryz.prog,told⟩ 163 [.int .u64 (n:Int),v] h fun r h'=>r=.int .u32 (zV n l:Nat)∧Sat h' S :=
 (JJ I.NF s.wf (s.aH J hX) hl).mono fun _ _ ⟨h1,h2⟩=>⟨h1,s.kF h2⟩
structure z_ (tx pv nx:Nat)(data:List Nat)(bW:List dn): Prop where
 fit:z8 bW
 tx:tx<18446744073709551616
 pv:pv<18446744073709551616
 nx:nx<18446744073709551616
 len:data.length+(bW.flatMap k9).length≤70368744177664
theorem J3 (J:W told){kd:Int}{tx pv nx aQ:Nat}{dt ch:V}{cs:List V}{data:List Nat}{bW:List dn}(s:Sat h (X::.arr 4 ch cs::dr cs bW::S))(hX:cO X (cR dt data))(I:z_ tx pv nx data bW):
  Call ⟨Tryz.prog,told⟩ 116 [.agg (nq kd tx pv nx dt ch),.int .u64 (aQ:Int)] h fun r h' =>
  (dZ kd bW=false∧r=.bh [.bp,.int .i64 1]∧Sat h' (X::.arr 4 ch cs::dr cs bW::S)) ∨
  (dZ kd bW=true∧1048576<(eE kd tx pv nx data bW).length∧r=.bh [.bp,.int .i64 2]∧Sat h' (X::.arr 4 ch cs::dr cs bW::S)) ∨
  (dZ kd bW=true∧(eE kd tx pv nx data bW).length≤1048576∧∃u,r=.bh [u,.int .i64 0]∧Sat h' (aR u (oT aQ (eE kd tx pv nx data bW))::X::.arr 4 ch cs::dr cs bW::S)):=by
 have rJ:=s.kY (j:=1) rfl
 have ur:=s.aH (k:=0) rfl hX
 have jZ:=vn (kd:=kd) (tx:=tx) (pv:=pv) (nx:=nx) ur.cells.2 rJ.2.1
 refine Call.of_wp (J.free _ rfl) Tryz.func116 rfl rfl (zg rfl (az.cG s rfl rfl rfl (fO rfl jZ) ?_))
 intro p1 h s
 dsimp only [V.cells] at s
 refine zk 6 rfl (zl rfl (s.cX (k:=0) rfl Bb tP) (zc rfl (L5 J (s.ae [2,2]) ur.cells.2 I.fit) ?_))
 rintro r h' ⟨rfl,s⟩
 cases hg:dZ kd bW with
 | false =>
  exact zo rfl (fo rfl rfl) (zk 7 rfl (WP.ret ⟨aa,_,rfl,.inl ⟨rfl,rfl,(s.ae [3,0,0]).del 3⟩⟩))
 | true =>
  refine zo rfl (fo rfl rfl) (zk 5 rfl (zl rfl (s.cX (k:=2) rfl Bb tP) ?_))
  have hk:∃n:Nat,kd=n:=⟨kd.toNat,by simp [dZ] at hg; omega⟩
  obtain ⟨kd,rfl⟩:=hk
  refine zc rfl (L7 J (s.ae [3,0,0]) hX hg I.fit I.tx I.pv I.nx I.len) ?_
  intro u h s
  dsimp only [bringA,getA,aV] at s
  have oB:(eE kd tx pv nx data bW).length<9223372036854775808:=by
   have h1:=fc 9 tx
   have h2:=fc 9 pv
   have h3:=fc 9 nx
   have h4:=fc 9 data.length
   have h5:=fc 9 bW.length
   have h6:=I.len
   simp only [eE,bD,aO,bB]
   omega
  generalize FE:eE kd tx pv nx data bW=bd at s oB ⊢
  refine zk 6 rfl (zo rfl (aM rfl rfl rfl (aW aG (s.aH (k:=0) rfl (aX _ _)))) ?_)
  by_cases L8:1048576<bd.length
  ·skip
   refine zt rfl (ag rfl rfl h_) (by simp; omega) ?_
   exact zk 7 rfl (WP.ret ⟨aa,_,rfl,.inr (.inl ⟨rfl,L8,rfl,(s.del 4).del 0⟩)⟩)
  ·skip
   refine zh rfl (ag rfl rfl h_) (by simp; omega) ?_
   refine zk 6 rfl (zo rfl (aM rfl rfl rfl (aW aG (s.aH (k:=0) rfl (aX _ _)))) (zb rfl (by exact bk (aA (by omega) (by omega))) ?_))
   refine az.any rfl rfl rfl (OpR.qE (c:=8+bd.length) rfl s rfl rfl rfl rfl (by omega)) ?_
   intro v h s
   refine zm rfl (zo rfl (aM rfl rfl rfl (aW aG (s.aH (k:=1) rfl (aX _ _)))) (zo rfl (cF rfl (by exact ke bO dm (gq (by omega) (by omega)))) ?_))
   refine zc rfl (DD (z:=4) J s (by decide) (by simp)) ?_
   intro v h s
   have a_:=(s.buf (k:=1) rfl).1
   refine zk 7 rfl (zc rfl (J2 (n:=aQ) J s (k:=1) rfl (aX _ _) (by omega)) ?_)
   rintro r h ⟨rfl,s⟩
   have kI:=LZ (aQ:=aQ) a_
   refine zo rfl (cF rfl (by exact ke Tryz.underlying231 dm (gq (by omega) (by omega)))) ?_
   refine zc rfl (DD (z:=4) J s (by decide) (by simp [dG])) ?_
   intro v h s
   refine zk 6 rfl (az.any rfl rfl rfl (OpR.ni rfl s (aX _ _) rfl rfl rfl rfl (by simp only [bD,dG,bB]; omega)) ?_)
   intro v h s
   refine zk 3 rfl (WP.ret ⟨aa,_,rfl,?_⟩)
   refine .inr (.inr ⟨rfl,by omega,v,rfl,?_⟩)
   have s:=(s.del 5).del 1
   dsimp only [aV] at s
   simpa [oT,eu] using s
def Lg.app (μ:Lg)(b:List Nat): Lg:={ μ with b:=μ.b++b,ct:=μ.ct++[μ.b.length] }
theorem HQ (hT:W told){kd:Int}{tx pv nx:Nat}{dt ch:V}{cs:List V}{data:List Nat}{bW:List dn}(s:Sat h (b7 q p μ::bx p δ::X::.arr 4 ch cs::dr cs bW::S))(hX:cO X (cR dt data))(fg:z_ tx pv nx data bW)
 (J:μ.Ok)(hf:δ.bP<4294967296)(hl:δ.log.length≤16777216)(hr:δ.room≤16777216):
  Call ⟨Tryz.prog,told⟩ 59 [.ptr q 0,.agg (nq kd tx pv nx dt ch)] h fun r h' =>
  (∃e:Int,r=.bh [.int .u64 0,.int .i64 e]∧((dZ kd bW=false∧e=1)∨(dZ kd bW=true∧1048576<(eE kd tx pv nx data bW).length∧e=2)∨(dZ kd bW=true∧(eE kd tx pv nx data bW).length≤1048576∧δ.dead=true∧e=9) ∨
    (dZ kd bW=true∧(eE kd tx pv nx data bW).length≤1048576∧δ.dead=false∧δ.room<δ.log.length+(oT (μ.base+μ.b.length) (eE kd tx pv nx data bW)).length∧e=7))∧Sat h' (b7 q p μ::bx p δ::X::.arr 4 ch cs::dr cs bW::S)) ∨
  (dZ kd bW=true∧(eE kd tx pv nx data bW).length≤1048576∧δ.dead=false∧δ.log.length+(oT (μ.base+μ.b.length) (eE kd tx pv nx data bW)).length≤δ.room∧δ.bP=0∧r=.bh [.int .u64 0,.int .i64 9] ∧
   Sat h' (b7 q p μ::bx p { δ.die with tail:=oT (μ.base+μ.b.length) (eE kd tx pv nx data bW) }::X::.arr 4 ch cs::dr cs bW::S)) ∨
  (dZ kd bW=true∧(eE kd tx pv nx data bW).length≤1048576∧δ.dead=false∧δ.log.length+(oT (μ.base+μ.b.length) (eE kd tx pv nx data bW)).length≤δ.room∧δ.bP≠0∧r=.bh [.int .u64 ((μ.base+μ.b.length:Nat):Int),.int .i64 0] ∧
   Sat h' (b7 q p (μ.app (oT (μ.base+μ.b.length) (eE kd tx pv nx data bW)))::bx p { δ.fZ with log:=δ.log++oT (μ.base+μ.b.length) (eE kd tx pv nx data bW) }::X::.arr 4 ch cs::dr cs bW::S)):=by
 have rJ:=s.kY (j:=3) rfl
 have ur:=s.aH (k:=2) rfl hX
 have jZ:=vn (kd:=kd) (tx:=tx) (pv:=pv) (nx:=nx) ur.cells.2 rJ.2.1
 have HO:=J.size
 refine Call.of_wp (hT.free _ rfl) Tryz.func59 rfl rfl (zg rfl (az.cG s rfl rfl rfl (fO rfl jZ) ?_))
 intro p1 h s
 dsimp only [V.cells] at s
 have s:=s.ae [1,0]
 refine zk 6 rfl (zc rfl (Bp hT s J.size) ?_)
 rintro v h' ⟨rfl,rfl⟩
 refine zk 4 rfl (zl rfl (s.cX (k:=1) rfl Bb tP) (zm rfl (zc rfl (J3 (aQ:=μ.base+μ.b.length) hT (s.ae [3,3,3]) hX fg) ?_)))
 generalize WX:oT (μ.base+μ.b.length) (eE kd tx pv nx data bW)=rc
 have WY:rc.length=8+(eE kd tx pv nx data bW).length:=by rw [←WX,tT]
 rintro r h' (⟨hg,rfl,s⟩ | ⟨hg,L8,rfl,s⟩ | ⟨hg,qK,u,rfl,s⟩)
 ·dsimp only [bringA,getA,aV] at s
  exact zk 10 rfl (zt rfl (ag rfl rfl aJ) (rfl) (zk 8 rfl (WP.ret ⟨aa,_,rfl,.inl ⟨1,rfl,.inl ⟨hg,rfl⟩,(s.ae [3,4,0,0,0]).del 5⟩⟩)))
 ·dsimp only [bringA,getA,aV] at s
  exact zk 10 rfl (zt rfl (ag rfl rfl aJ) (rfl) (zk 8 rfl (WP.ret ⟨aa,_,rfl,.inl ⟨2,rfl,.inr (.inl ⟨hg,L8,rfl⟩),(s.ae [3,4,0,0,0]).del 5⟩⟩)))
 ·dsimp only [bringA,getA,aV] at s
  have a_:=(s.buf (k:=0) rfl).1
  obtain ⟨kg,_,cap,_,rfl,_⟩:=s.eF (by omega)
  obtain ⟨bv,sv,s⟩:=fS.1 (s.ae [4])
  refine zk 10 rfl (zh rfl (ag rfl rfl aJ) (rfl) (zk 8 rfl (zf rfl (FY _ _) (zl rfl (s.ld (k:=0) rfl rY rfl) (zm rfl ?_)))))
  have s:=s.ae [8,3]
  refine zc rfl (HJ hT s (aX _ _) (by omega) hf (by omega) (by omega)) ?_
  rintro r h (⟨hd,rfl,s⟩ | ⟨hd,CD,rfl,s⟩ | ⟨hd,I,h0,rfl,s⟩ | ⟨hd,I,h0,rfl,s⟩)
  ·refine az.op rfl rfl rfl (fl rfl) ?_
   exact zk 4 rfl (zt rfl (ag rfl rfl aJ) (rfl) (zk 8 rfl (WP.ret ⟨aa,_,rfl,.inl ⟨9,rfl,.inr (.inr (.inl ⟨hg,qK,hd,rfl⟩)),(fS.2 ⟨bv,sv,((s.ae [2,2,2,0,1,1,1]).del 8).del 7⟩)⟩⟩)))
  ·skip
   exact zk 5 rfl (zt rfl (ag rfl rfl aJ) (rfl) (zk 8 rfl (WP.ret ⟨aa,_,rfl,.inl ⟨7,rfl,.inr (.inr (.inr ⟨hg,qK,hd,by omega,rfl⟩)),(fS.2 ⟨bv,sv,((s.ae [2,2,2,0,1,1,1]).del 8).del 7⟩)⟩⟩)))
  ·skip
   exact zk 5 rfl (zt rfl (ag rfl rfl aJ) (rfl) (zk 8 rfl (WP.ret ⟨aa,_,rfl,.inr (.inl ⟨hg,qK,hd,I,h0,rfl,(fS.2 ⟨bv,sv,((s.ae [2,2,2,0,1,1,1]).del 8).del 7⟩)⟩)⟩)))
  ·skip
   have s:=s.ae [2,2,2,1,0,0,0,0]
   refine zk 5 rfl (zh rfl (ag rfl rfl aJ) (rfl) (zk 4 rfl ?_))
   have s0:=s
   have Ri:=jm (s.buf (k:=1) rfl).view
   have TX:=(s.kY (j:=2) rfl).2.2
   refine WP.drawn [some (0,3),some (0,2),some (0,2),some (0,2),some (0,2),ak,ak,ak,ak,ak,ak,ak,ak,ak,ak] rfl (by kernel_rfl) (by kernel_rfl) ?_
   refine zM rfl (zM rfl (zN rfl (zF rfl (oa _ _) (zL rfl (s.ld (k:=0) rfl mq rfl) (zM rfl (zN rfl (zF rfl (j5 _ _) (zL rfl (s.ld (k:=0) rfl bN rfl) (zO rfl (aM rfl rfl rfl (aW aG (s.aH (k:=1) rfl (aX _ _)))) ?_)))))))))
   obtain ⟨i1,jb,gi,tc⟩:=og
   obtain ⟨iv,h1,e1,s1⟩:=j7 (P:=Tryz.prog) (k:=1) (x:=.int .i64 (μ.b.length:Int)) s bL uo kf rfl (by decide) (by decide) rfl rfl
   dsimp only [V.cells] at s1
   refine aC.any rfl rfl rfl rfl (OpR.of (R:=fun v h'=>v=iv∧h'=h1) (kn rfl e1) ⟨rfl,rfl⟩) ?_
   rintro v h' ⟨rfl,rfl⟩
   have NK:=J.many
   obtain ⟨B1,h2,e2,s2⟩:=fP (s1.ae [3,0]) bL jb uo gi (by omega) rfl (by decide) (by simp only [eL,aO,bB]; omega)
   refine aC.any rfl rfl rfl rfl (OpR.of (R:=fun v h'=>v=B1∧h'=h2) (kj rfl rfl e2) ⟨rfl,rfl⟩) ?_
   rintro v h' ⟨rfl,rfl⟩
   have hv:=s2.kY (j:=0) rfl
   refine zN rfl (zF rfl (oa _ _) (aC.j3 rfl rfl rfl (OpR.sS rfl rfl rfl (s2.iF (k:=2) rfl LJ rfl (by decide) hv.1 hv.2.1)) ?_))
   rintro v h ⟨rfl,s⟩
   refine aC.nil ⟨⟨fun _ _=>.inr ⟨rfl,⟨_,cg rfl⟩,bS _ rfl⟩,fun _ _=>.inr ⟨rfl,⟨_,cg rfl⟩,bS _ rfl⟩,fun _ _=>.inr ⟨rfl,⟨_,tO rfl⟩,bS _ rfl⟩,fun _ _=>.inr ⟨rfl,⟨_,nZ rfl (oa _ _)⟩,bS _ rfl⟩,ff (.inr ⟨rfl,⟨_,aU rfl (s0.ld (k:=0) rfl mq rfl)⟩,TX⟩) (.inr ⟨rfl,⟨_,aU rfl (s1.ld (k:=1) rfl mq rfl)⟩,TX⟩),aa,aa,aa,aa,aa,aa,aa,aa,aa,aa,aa⟩,?_⟩
   refine zK 5 rfl (zf rfl (j5 _ _) (zl rfl (s.ld (k:=2) rfl bN rfl) (zm rfl (az.any rfl rfl rfl (OpR.ni rfl (s.ae [3,3]) (aX _ _) rfl rfl rfl rfl (by have:=J.len; omega)) ?_))))
   intro NM h s
   have hv:=(s.buf (k:=0) rfl).view.cells
   refine zn rfl (zf rfl (j5 _ _) (zS rfl (s.iF (k:=4) rfl ko rfl (by decide) hv.1 hv.2) ?_))
   intro h s
   refine zk 7 rfl (WP.ret ⟨aa,_,rfl,?_⟩)
   refine .inr (.inr ⟨hg,qK,hd,I,h0,rfl,fS.2 ⟨NM,v,?_⟩⟩)
   have s:=(((s.ae [4,0,1]).del 4).del 3).del 7
   have e:bE (μ.app rc).ct=bE μ.ct++[.int .i64 (μ.b.length:Int)]:=by simp [Lg.app,bE]
   rw [e]
   exact s
end
end Go.Proofs.YtefepnnfphdkpaaGreat.Am
