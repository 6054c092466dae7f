/- AtomCuts: a part of its proof; conditions: its statement's. -/
import Derived.Test.YtconhghphklfjaaGreatC20
set_option linter.defProp false
namespace Go.Proofs.YtconhghphklfjaaGreat.Am
open Go
def iM:=@Tryz.underlying38
def Hp:=@Tryz.underlying205
structure cj where
 aO:Int
 pos:Int
 whole:Bool
 b:List Nat
def cj.Ok (c:cj): Prop:=0≤c.aO∧c.aO<65536∧0≤c.pos∧c.pos≤512∧(c.b.length:Int)≤512-c.pos∧(c.whole=true→c.pos=0∧c.b.length=512)
instance (c:cj):Decidable c.Ok:=by unfold cj.Ok; infer_instance
def dK (kind:Int)(aR:List cj): Bool:=decide (1≤kind∧kind≤9)&&aR.all fun c=>decide c.Ok
def iC (kd:Int)(tx pv nx:Nat)(dt ch:V): List V:=[.int .i64 kd,.int .u64 (tx:Int),.int .u64 (pv:Int),.int .u64 (nx:Int),dt,ch]
theorem mS {kd:Int}{tx pv nx:Nat}{dt ch:V}(I:storable dt=true)(J:storable ch=true): (iC kd tx pv nx dt ch).all storable=true:=by
 simp only [iC,iR,jg,I,J]
 rfl
def cV : List V→List cj→ax
 | [],[]=>.pu True
 | p::a::w::v::l,x::m=>.an (.an (.pu (p=.int .i64 x.aO∧a=.int .i64 x.pos∧w=.bool x.whole)) (.cm v x.b)) (cV l m)
 | _,_=>.pu False
theorem aE.mB : ∀(m:List cj) (l:List V),aE (cV l m):=by
 intro m
 induction m with
 | nil=>intro l; rcases l with _ | ⟨a,_ | ⟨b,_ | ⟨c,_ | ⟨d,l⟩⟩⟩⟩ <;> exact aE.pu _
 | cons x m I=>intro l; rcases l with _ | ⟨a,_ | ⟨b,_ | ⟨c,_ | ⟨d,l⟩⟩⟩⟩ <;> first | exact aE.pu _ | exact aE.an (aE.an (aE.pu _) (aE.cm _ _)) (I l)
theorem oO {a b:PM}: ∀ {m:List cj} {l:List V},(cV l m).p a b→l.length=m.length*4:=by
 intro m
 induction m with
 | nil=>intro l h; rcases l with _ | ⟨x,_ | ⟨y,_ | ⟨z,_ | ⟨d,l⟩⟩⟩⟩ <;> first | rfl | exact h.elim
 | cons x m I =>
  intro l h
  rcases l with _ | ⟨x,_ | ⟨y,_ | ⟨z,_ | ⟨d,l⟩⟩⟩⟩ <;> first | exact h.elim | skip
  have:=I h.2
  simp only [bj]
  omega
theorem xp {a b:PM}: ∀ {m m':List cj} {l I:List V},(cV l m).p a b→(cV I m').p a b→(cV (l++I) (m++m')).p a b:=by
 intro m
 induction m with
 | nil=>intro m' l I h h'; rcases l with _ | ⟨x,_ | ⟨y,_ | ⟨z,_ | ⟨d,l⟩⟩⟩⟩ <;> first | exact h' | exact h.elim
 | cons x m J =>
  intro m' l I h h'
  rcases l with _ | ⟨x,_ | ⟨y,_ | ⟨z,_ | ⟨d,l⟩⟩⟩⟩ <;> first | exact h.elim | exact ⟨h.1,J h.2 h'⟩
theorem Hq {a b:PM}: ∀ {m:List cj} {l:List V} {i:Nat} {c:cj},(cV l m).p a b→m[i]?=some c→∃u,(l.drop (i*4)).take 4=[.int .i64 c.aO,.int .i64 c.pos,.bool c.whole,u]∧(ax.cm u c.b).p a b:=by
 intro m
 induction m with
 | nil=>intro l i c h I; simp at I
 | cons x m J =>
  intro l i c h I
  rcases l with _ | ⟨p,_ | ⟨q,_ | ⟨w,_ | ⟨v,l⟩⟩⟩⟩ <;> first | exact h.elim | skip
  obtain ⟨⟨⟨U,h2,h3⟩,h4⟩,h5⟩:=h
  cases i with
  | zero=>simp at I; subst I; exact ⟨v,by rw [U,h2,h3]; rfl,h4⟩
  | succ i =>
   simp at I
   obtain ⟨u,e1,e2⟩:=J h5 I
   refine ⟨u,?_,e2⟩
   rw [←e1,show (i+1)*4=i*4+4 by omega]
   rfl
section
variable {told:dH} {h:H} {S:List ax} {X:ax} {k q p:Nat} {v:V} {l:List Nat}
theorem Hr {ch:V}{cs:List V}{m:List cj}{i:Nat}{c:cj}(s:Sat h (.arr 4 ch cs::cV cs m::S))(U:m[i]?=some c):
  ∃id off u,indexAddrV Tryz.prog 38 ch (.int .i64 (i:Int))=some (.ptr id off)∧loadV Tryz.prog h 54 (.ptr id off)=some (.agg [.int .i64 c.aO,.int .i64 c.pos,.bool c.whole,u]) ∧
   u.cells=[u]∧storable u=true∧u.beq u=true∧Sat h (.cm u c.b::.arr 4 ch cs::cV cs m::S):=by
 obtain ⟨a,b,q1,q2,q3⟩:=s.at (k:=1) rfl
 have Bd:=(List.getElem?_eq_some_iff.1 U).1
 have hl:=oO q3
 obtain ⟨u,e1,e2⟩:=Hq q3 U
 obtain ⟨id,off,g1,J⟩:=G5 (P:=Tryz.prog) (i:=i) s (j:=0) rfl (by omega) (by decide) iM sD
 have J:=J Lr
 rw [e1] at J
 have s2:Sat h (cV cs m::.arr 4 ch cs::S):=s.ae [1]
 have s3:=(s2.dup (aE.mB _ _)).fP (B:=.cm u c.b) fun a b h=>by
  obtain ⟨u',I,uJ⟩:=Hq h U
  rw [e1] at I
  injection I with _ I
  injection I with _ I
  injection I with _ I
  injection I with I _
  subst I
  exact uJ
 have hu:=(s3.aG (k:=0) rfl (cJ _ _))
 exact ⟨id,off,u,g1,J,hu.cells.1,hu.cells.2,c8 hu,s3.ae [0,1,0]⟩
theorem Kj {ch:V}{cs:List V}{m:List cj}{j1 j2:Nat}{P:Program}{t e:TypeId}(s:Sat h S)(I:getA S j1=some (.arr 4 ch cs))(J:getA S j2=some (cV cs m))(hu:P.underlying t=some (.slice e)): lenV P h t ch=some (.int .i64 m.length):=by
 obtain ⟨a,b,q1,q2,U⟩:=s.at J
 exact s.iK I (oO U) (by decide) hu
theorem Sat.wA {ch:V}{cs:List V}{m:List cj}{j1 j2:Nat}{P:Program}{t e:TypeId}(s:Sat h S)(I:getA S j1=some (.arr 4 ch cs))(J:getA S j2=some (cV cs m))(hu:P.underlying t=some (.slice e)): lenV P h t ch=some (.int .i64 m.length):=Kj s I J hu
noncomputable def Y3 : Code:=cK [1,1,0,1,0,0] ((Tryz.f120.body).getD .skip)
theorem LL {p1:Nat}{ch:V}{cs:List V}{m:List cj}: ∀(j i:Nat) (h:H) (E:List (Nat×V)) (Q:Ex→List (Nat×V)→H→Prop),i+j=m.length→m.length<4294967296→(∀c∈m,c.b.length<9223372036854775808) →
  (∀c∈m, -4294967296≤c.pos∧c.pos≤4294967296)→Sat h (.arr 4 ch cs::cV cs m::S)→Has E [(1,.ptr p1 0),(14,ch),(15,.int .i64 m.length),(16,.int .i64 i)] →
  ((m.drop i).all (fun c=>decide c.Ok)=false→∀E' h',look E' 2=some (.bool false)→Sat h' (.arr 4 ch cs::cV cs m::S)→Q .ret E' h') →
  ((m.drop i).all (fun c=>decide c.Ok)=true→∀E' h',Sat h' (.arr 4 ch cs::cV cs m::S)→Q (.exit 0) E' h')→WP ⟨Tryz.prog,told⟩ 61 (.loop Y3) E h Q:=by
 intro j
 induction j with
 | zero =>
  intro i h E Q hi hm hb J s hE U hx
  refine WP.loop (WP.has hE (zg rfl (zh rfl (ah rfl rfl bu) (by simp; omega) ?_)))
  exact zk 3 rfl (WP.exit (hx (by rw [iu (by omega)]; rfl) _ _ s))
 | succ j ih =>
  intro i h E Q hi hm hb J s hE U hx
  have hc:m[i]?=some (m[i]'(by omega)):=bh _
  generalize (m[i]'(by omega))=c at hc
  have NT:=br hc
  have Y4:=hb c NT
  have VX:=J c NT
  have j8:m.drop i=c::m.drop (i+1):=by
   have:=List.getElem?_eq_some_iff.1 hc
   obtain ⟨h1,rfl⟩:=this
   exact kR h1
  rw [j8,iR] at U hx
  obtain ⟨id,off,u,e1,e2,u1,u2,u3,s⟩:=Hr s hc
  refine WP.loop (WP.has hE (zg rfl (zt rfl (ah rfl rfl bu) (by simp; omega) ?_)))
  refine zk 5 rfl (WP.block (zg rfl (zo rfl (dY (r:=.ptr id off) rfl rfl e1) (zl rfl e2 ?_))))
  refine aB.cQ s rfl rfl rfl (cC ry) (fun p4 h s => ?_)
  dsimp only [V.cells,List.length_cons,List.length_nil,Nat.reduceAdd] at s
  refine zS rfl (s.g9 (j:=0) rfl sD rfl (by simp only [iR,jg,u2]; rfl)) ?_
  intro h s
  dsimp only [setA] at s
  refine zk 4 rfl (zf rfl (qo _ _) (zl rfl (s.ld (k:=0) rfl dr rfl) ?_))
  refine zd rfl (ah rfl rfl bu) ?_ ?_
  ·intro uk
   have uk:c.aO<0:=by simp at uk; omega
   exact zk 30 rfl (WP.ret (U (by rw [eE (fun q:c.Ok=>by have:=q.1; omega),e_]) _ _ rfl s.drop.drop))
  ·intro uk
   have uk:¬ (c.aO<0):=by simp at uk; omega
   refine zm rfl (zf rfl (qo _ _) (zl rfl (s.ld (k:=0) rfl dr rfl) ?_))
   refine zd rfl (ah rfl rfl nq) ?_ ?_
   ·intro xY
    have xY:65536≤c.aO:=by simp at xY; omega
    exact zk 26 rfl (WP.ret (U (by rw [eE (fun q:c.Ok=>by have:=q.2.1; omega),e_]) _ _ rfl s.drop.drop))
   ·intro xY
    have xY:¬ (65536≤c.aO):=by simp at xY; omega
    refine zk 2 rfl (zf rfl (r7 _ _) (zl rfl (s.ld (k:=0) rfl dr rfl) ?_))
    refine zd rfl (ah rfl rfl bu) ?_ ?_
    ·intro iB
     have iB:c.pos<0:=by simp at iB; omega
     exact zk 21 rfl (WP.ret (U (by rw [eE (fun q:c.Ok=>by have:=q.2.2.1; omega),e_]) _ _ rfl s.drop.drop))
    ·intro iB
     have iB:¬ (c.pos<0):=by simp at iB; omega
     refine zk 2 rfl (zf rfl (r7 _ _) (zl rfl (s.ld (k:=0) rfl dr rfl) ?_))
     refine zd rfl (ah rfl rfl dR) ?_ ?_
     ·intro NU
      have NU:512<c.pos:=by simp at NU; omega
      exact zk 16 rfl (WP.ret (U (by rw [eE (fun q:c.Ok=>by have:=q.2.2.2.1; omega),e_]) _ _ rfl s.drop.drop))
     ·intro NU
      have NU:¬ (512<c.pos):=by simp at NU; omega
      refine zk 2 rfl (zf rfl (ow _ _) (zl rfl (s.ld (k:=0) rfl bL rfl) (zo rfl (a_ rfl rfl rfl (bg aS (s.aG (k:=1) rfl (cJ _ _)))) (zf rfl (r7 _ _) (zl rfl (s.ld (k:=0) rfl dr rfl) (zb rfl (by exact lG (aU (by omega) (by omega))) ?_))))))
      refine zd rfl (ah rfl rfl dR) ?_ ?_
      ·intro NV
       have NV:512-c.pos<(c.b.length:Int):=by simp at NV; omega
       exact zk 7 rfl (WP.ret (U (by rw [eE (fun q:c.Ok=>by have:=q.2.2.2.2.1; omega),e_]) _ _ rfl s.drop.drop))
      ·intro NV
       have NV:¬ (512-c.pos<(c.b.length:Int)):=by simp at NV; omega
       refine zk 6 rfl (zf rfl (yM _ _) ?_)
       have rL:∀(h:H) (E:List (Nat×V)),c.Ok→Sat h (.arr 4 ch cs::cV cs m::S)→Has E [(1,.ptr p1 0),(14,ch),(15,.int .i64 m.length),(16,.int .i64 ((i:Int)+1))]→WP ⟨Tryz.prog,told⟩ 61 (.loop Y3) E h Q:=by
        intro h E lB s hE
        rw [dM lB,Ak] at U hx
        exact ih (i+1) h E Q (by omega) hm hb J s hE U hx
       have MJ:c.whole=false∨c.whole=true:=by cases c.whole <;> simp
       rcases MJ with hw | hw
       ·skip
        refine zh rfl (aV rfl (by exact s.ld (k:=0) rfl jW rfl)) (hw) ?_
        refine zk 11 rfl (zv (zj rfl (WP.skip (zr rfl (zb rfl (by exact bQ (aU (by omega) (by omega))) ?_)))))
        refine zm rfl (zv ?_)
        refine rL _ _ ?_ ?_ ?_
        ·exact ⟨by omega,by omega,by omega,by omega,by omega,fun e=>by rw [hw] at e; cases e⟩
        ·exact s.drop.drop
        ·exact ⟨rfl,rfl,rfl,rfl,aa⟩
       ·skip
        refine zt rfl (aV rfl (s.ld (k:=0) rfl jW rfl)) (hw) (zm rfl (zf rfl (r7 _ _) (zl rfl (s.ld (k:=0) rfl dr rfl) ?_)))
        refine zd rfl (ah rfl rfl aX) ?_ ?_
        ·intro hp
         have hp:c.pos≠0:=by simp at hp; omega
         exact zk 13 rfl (WP.ret (U (by rw [eE (fun q:c.Ok=>hp (q.2.2.2.2.2 hw).1),e_]) _ _ rfl s.drop.drop))
        ·intro hp
         have hp:c.pos=0:=by simp at hp; omega
         refine zm rfl (zf rfl (ow _ _) (zl rfl (s.ld (k:=0) rfl bL rfl) (zo rfl (a_ rfl rfl rfl (bg aS (s.aG (k:=1) rfl (cJ _ _)))) ?_)))
         refine zd rfl (ah rfl rfl aX) ?_ ?_
         ·intro I
          have I:c.b.length≠512:=by simp at I; omega
          exact zk 8 rfl (WP.ret (U (by rw [eE (fun q:c.Ok=>I (q.2.2.2.2.2 hw).2),e_]) _ _ rfl s.drop.drop))
         ·intro I
          have I:c.b.length=512:=by simp at I; omega
          refine zk 2 rfl (zv (zj rfl (WP.skip (zr rfl (zb rfl (by exact bQ (aU (by omega) (by omega))) ?_)))))
          refine zm rfl (zv ?_)
          refine rL _ _ ?_ ?_ ?_
          ·exact ⟨by omega,by omega,by omega,by omega,by omega,fun _=>⟨hp,I⟩⟩
          ·exact s.drop.drop
          ·exact ⟨rfl,rfl,rfl,rfl,aa⟩
def wB (m:List cj): Prop:=m.length<4294967296∧(∀c∈m,c.b.length<4294967296)∧(∀c∈m, -4294967296≤c.pos∧c.pos≤4294967296)
theorem Ht (hT:W told){kd:Int}{tx pv nx:Nat}{dt ch:V}{cs:List V}{m:List cj}(s:Sat h (.arr 4 ch cs::cV cs m::S))(hd:storable dt=true)(hm:wB m):
  Call ⟨Tryz.prog,told⟩ 120 [.agg (iC kd tx pv nx dt ch)] h fun r h'=>r=.bool (dK kd m)∧Sat h' (.arr 4 ch cs::cV cs m::S):=by
 have jZ:=s.kJ (j:=0) rfl
 have fW:=mS (kd:=kd) (tx:=tx) (pv:=pv) (nx:=nx) hd jZ.2.1
 refine Call.of_wp (hT.free _ rfl) Tryz.func120 rfl rfl (zg rfl (aB.cQ s rfl rfl rfl (gC rfl fW) ?_))
 intro p1 h s
 refine zk 5 rfl (zf rfl (ux _ _) (zl rfl (s.ld (k:=0) rfl dr rfl) ?_))
 refine zd rfl (ah rfl rfl bu) ?_ ?_
 ·intro J
  have J:kd<1:=by simpa using J
  exact zk 11 rfl (WP.ret ⟨aa,_,rfl,by rw [dK,eE (by omega),e_],s.drop⟩)
 ·intro J
  have J:1≤kd:=by simpa using J
  refine zm rfl (zf rfl (ux _ _) (zl rfl (s.ld (k:=0) rfl dr rfl) ?_))
  refine zd rfl (ah rfl rfl dR) ?_ ?_
  ·intro I
   have I:9<kd:=by simpa using I
   exact zk 7 rfl (WP.ret ⟨aa,_,rfl,by rw [dK,eE (by omega),e_],s.drop⟩)
  ·intro I
   have I:kd≤9:=by simpa using I
   refine zk 7 rfl (zf rfl (mR _ _) (zl rfl (s.ld (k:=0) rfl uw rfl) (zo rfl (a_ rfl rfl rfl (Kj s (j1:=1) (j2:=2) rfl rfl iM)) (zk 2 rfl (WP.block ?_)))))
   have hg:dK kd m=m.all (fun c=>decide c.Ok):=by rw [dK,dM ⟨J,I⟩,Ak]
   refine LL m.length 0 _ _ _ (by omega) hm.1 (fun c hc=>by have:=hm.2.1 c hc; omega) hm.2.2 s.drop ⟨rfl,rfl,rfl,rfl,aa⟩ (fun U E' h' h2 s' => ?_) (fun U E' h' s' => ?_)
   ·rw [hg]
    rw [dS] at U
    rw [U]
    exact ⟨aa,_,oK h2,rfl,s'⟩
   ·rw [hg]
    rw [dS] at U
    rw [U]
    exact WP.has (F:=[]) aa (zK 4 rfl (WP.ret ⟨aa,_,rfl,rfl,s'⟩))
end
def kK (c:cj): List Nat:=digits 9 c.aO.toNat++digits 9 c.pos.toNat++[if c.whole then 1 else 0]++(digits 9 c.b.length++c.b)
def cY (kd:Int)(tx pv nx:Nat)(data:List Nat)(aR:List cj): List Nat :=
 [kd.toNat]++digits 9 tx++digits 9 pv++digits 9 nx++(digits 9 data.length++data)++digits 9 aR.length++aR.flatMap kK
section
variable {told:dH} {h:H} {S:List ax} {X:ax} {k q p:Nat} {v w:V} {l m:List Nat}
theorem pT (I:W told){n:Nat}(s:Sat h (bH v l::S))(hn:n<18446744073709551616)(hl:l.length≤140737488355000):
  Call ⟨Tryz.prog,told⟩ 135 [v,.int .u64 (n:Int)] h fun r h'=>Sat h' (bH r (l++digits 9 n)::S) :=
 (Fb I.Sk (k:=9) s.wf (s.buf (k:=0) rfl) (by omega) (by omega) (by omega)).mono fun _ _ ⟨J,U,h3⟩=>s.AB U J h3
theorem Eo (U:W told)(s:Sat h (bH v l::X::S))(I:cT X (cU w m))(hl:l.length+m.length≤140737488355000):
  Call ⟨Tryz.prog,told⟩ 136 [v,w] h fun r h'=>Sat h' (bH r (l++(digits 9 m.length++m))::X::S) :=
 (Tu U.Sk (k:=9) s.wf (s.buf (k:=0) rfl) (s.aG (k:=1) rfl I) (s.VN I) (by omega) (by omega) (by omega)).mono fun _ _ ⟨J,h2,h3⟩=>by
  rw [bN] at J
  exact s.AB h2 J h3
noncomputable def Y5 : Code:=cK [1,1,1,1,0,1,0,0] ((Tryz.f121.body).getD .skip)
theorem NY (hT:W told){p1:Nat}{ch:V}{cs:List V}{aR:List cj}(lB:∀c∈aR,c.Ok)(J:wB aR): ∀(j i:Nat) (sv:V) (l:List Nat) (h:H) (E:List (Nat×V)) (Q:Ex→List (Nat×V)→H→Prop),i+j=aR.length →
  l.length+((aR.drop i).flatMap kK).length≤140737488355000 →
  Sat h (bH sv l::.arr 4 ch cs::cV cs aR::S)→Has E [(1,.ptr p1 0),(3,sv),(37,ch),(38,.int .i64 aR.length),(39,.int .i64 i)] →
  (∀E' h' I,look E' 3=some I→Sat h' (bH I (l++(aR.drop i).flatMap kK)::.arr 4 ch cs::cV cs aR::S)→Q (.exit 2) E' h')→WP ⟨Tryz.prog,told⟩ 63 (.loop Y5) E h Q:=by
 intro j
 induction j with
 | zero =>
  intro i sv l h E Q hi hlen s hE hx
  have hm:=J.1
  refine WP.loop (WP.has hE (zg rfl (zh rfl (ah rfl rfl bu) (by simp; omega) ?_)))
  refine zk 3 rfl (WP.exit (hx _ _ sv rfl ?_))
  rw [iu (by omega)]
  simpa using s
 | succ j ih =>
  intro i sv l h E Q hi hlen s hE hx
  have hm:=J.1
  have hc:aR[i]?=some (aR[i]'(by omega)):=bh _
  generalize (aR[i]'(by omega))=c at hc
  have NT:=br hc
  have aar:=lB c NT
  have Y4:=J.2.1 c NT
  have j8:aR.drop i=c::aR.drop (i+1):=by
   obtain ⟨h1,rfl⟩:=List.getElem?_eq_some_iff.1 hc
   exact kR h1
  rw [j8,qP] at hlen hx
  obtain ⟨pg,ps,wh,bb⟩:=c
  obtain ⟨q1,q2,q3,q4,_⟩:=aar
  dsimp only at q1 q2 q3 q4 Y4
  obtain ⟨pg,rfl⟩:∃n:Nat,pg=n:=⟨pg.toNat,by omega⟩
  obtain ⟨ps,rfl⟩:∃n:Nat,ps=n:=⟨ps.toNat,by omega⟩
  have U:kK ⟨pg,ps,wh,bb⟩=digits 9 pg++digits 9 ps++[if wh then 1 else 0]++(digits 9 bb.length++bb):=by simp [kK]
  have J0:(kK ⟨pg,ps,wh,bb⟩).length=(digits 9 pg).length+(digits 9 ps).length+1+(digits 9 bb.length).length+bb.length:=by rw [U]; simp; omega
  rw [bA,J0] at hlen
  obtain ⟨id,off,u,e1,e2,u1,u2,u3,s⟩:=Hr (s.ae [1,1]) hc
  dsimp only at e2
  have s:=s.ae [3,0,0,0]
  dsimp only [aT,bringA,getA] at s
  refine WP.loop (WP.has hE (zg rfl (zt rfl (ah rfl rfl bu) (by simp; omega) ?_)))
  refine zk 5 rfl (WP.block (zg rfl (zo rfl (dY (r:=.ptr id off) rfl rfl e1) (zl rfl e2 ?_))))
  refine aB.cQ s rfl rfl rfl (cC ry) (fun p7 h s => ?_)
  dsimp only [V.cells,List.length_cons,List.length_nil,Nat.reduceAdd] at s
  refine zS rfl (s.g9 (j:=0) rfl sD rfl (by simp only [iR,jg,u2]; rfl)) ?_
  intro h s
  dsimp only [setA] at s
  refine zk 2 rfl ?_
  have s:=s.ae [1,0]
  dsimp only [bringA,getA,aT] at s
  have s0:=s
  refine WP.drawn [ai,ai,ai,ai,ai,some (0,2),some (0,2),some (0,2),none,none] rfl (by kernel_rfl) (by kernel_rfl) ?_
  refine zM rfl (zF rfl (qo _ _) (zL rfl (s.ld (k:=1) rfl dr rfl) (aA.op rfl rfl rfl (by simp only [isEff,cq]) (bV rfl (by exact jF bF cq (eW (by omega) (by omega)))) ?_)))
  refine aA.any rfl rfl rfl rfl (OpR.call rfl rfl rfl rfl (pT hT s (by omega) (by omega))) ?_
  intro v1 h s
  have s1:=s
  refine zF rfl (r7 _ _) (zL rfl (s.ld (k:=1) rfl dr rfl) (aA.op rfl rfl rfl (by simp only [isEff,cq]) (bV rfl (by exact jF bF cq (eW (by omega) (by omega)))) ?_))
  refine aA.any rfl rfl rfl rfl (OpR.call rfl rfl rfl rfl (pT hT s (by omega) (by simp; omega))) ?_
  intro v2 h s
  refine zA rfl ?_
  refine aA.nil ⟨⟨aa,aa,aa,aa,aa,fun _ _=>.inr ⟨rfl,⟨_,jE rfl (r7 _ _)⟩,aW _ rfl⟩,dO (.inr ⟨rfl,⟨_,aV rfl (s0.ld (k:=1) rfl dr rfl)⟩,aW _ rfl⟩) (.inr ⟨rfl,⟨_,aV rfl (s1.ld (k:=1) rfl dr rfl)⟩,aW _ rfl⟩),fun _ _=>.inr ⟨rfl,⟨_,bV rfl (by exact jF bF cq (eW (by omega) (by omega)))⟩,aW _ rfl⟩,aa,aa,aa⟩,?_⟩
  have Ho:∀(h:H) (E:List (Nat×V)) (I:V),Sat h (bH I (l++kK ⟨pg,ps,wh,bb⟩)::.arr 4 ch cs::cV cs aR::S)→Has E [(1,.ptr p1 0),(3,I),(37,ch),(38,.int .i64 aR.length),(39,.int .i64 ((i:Int)+1))]→WP ⟨Tryz.prog,told⟩ 63 (.loop Y5) E h Q:=by
   intro h E I s hE
   refine ih (i+1) I _ h E Q (by omega) (by rw [bA,J0]; omega) s hE (fun E' h' sv2 xV s'=>hx E' h' sv2 xV ?_)
   rw [bN] at s'
   exact s'
  have hlp:=gH 9 pg
  have hlq:=gH 9 ps
  refine zK 7 rfl (zf rfl (yM _ _) ?_)
  have MJ:wh=false∨wh=true:=by cases wh <;> simp
  rcases MJ with hw | hw
  ·skip
   refine zh rfl (aV rfl (s.ld (k:=1) rfl jW rfl)) (hw) (zk 3 rfl ?_)
   have s0:=s
   have ng:=c8 (s.buf (k:=0) rfl).view
   refine WP.drawn [some (0,2),ai,ai,ai,some (0,3),some (0,3),none,none] rfl (by kernel_rfl) (by kernel_rfl) ?_
   refine zM rfl (zM rfl (aA.any rfl rfl rfl rfl (OpR.LB (n:=0) rfl s rfl rfl rfl (by decide)) ?_))
   intro v3 h s
   have s:=s.ae [1,1,0]
   dsimp only [bringA,getA,aT] at s
   have s1:=s
   refine aA.any rfl rfl rfl rfl (OpR.oL rfl (s.ae [0,1]) (bE _ _) rfl rfl rfl rfl (by simp; omega)) ?_
   intro v4 h s
   have s:=s.del 1
   dsimp only [aT,bringA] at s
   have s2:=s
   refine zF rfl (ow _ _) (zL rfl (s.ld (k:=1) rfl bL rfl) (aA.any rfl rfl rfl rfl (OpR.call rfl rfl rfl rfl (Eo hT (s.ae [0,1]) (cJ _ _) (by simp; omega))) ?_))
   intro v5 h s
   dsimp only [aT,bringA] at s
   refine zA rfl ?_
   refine aA.nil ⟨⟨fun _ _=>.inr ⟨rfl,⟨_,bk rfl⟩,ng⟩,aa,aa,aa,fun _ _=>.inr ⟨rfl,⟨_,jE rfl (ow _ _)⟩,aW _ rfl⟩,wj (.inr ⟨rfl,⟨_,aV rfl (s0.ld (k:=1) rfl bL rfl)⟩,u3⟩) (.inr ⟨rfl,⟨_,aV rfl (s1.ld (k:=1) rfl bL rfl)⟩,u3⟩) (.inr ⟨rfl,⟨_,aV rfl (s2.ld (k:=1) rfl bL rfl)⟩,u3⟩),aa,aa,aa⟩,?_⟩
   refine zr rfl (zb rfl (by exact bQ (aU (by omega) (by omega))) ?_)
   refine zm rfl (zv ?_)
   refine Ho _ _ v5 ?_ ?_
   ·rw [U,hw]
    have s:=(s.del 1).del 1
    dsimp only [aT] at s
    simpa [bN] using s
   ·exact ⟨rfl,rfl,rfl,rfl,rfl,aa⟩
  ·skip
   refine zt rfl (aV rfl (s.ld (k:=1) rfl jW rfl)) (hw) (zk 5 rfl ?_)
   have s0:=s
   have ng:=c8 (s.buf (k:=0) rfl).view
   refine WP.drawn [some (0,2),ai,ai,ai,some (0,3),some (0,3),none,none] rfl (by kernel_rfl) (by kernel_rfl) ?_
   refine zM rfl (zM rfl (aA.any rfl rfl rfl rfl (OpR.LB (n:=1) rfl s rfl rfl rfl (by decide)) ?_))
   intro v3 h s
   have s:=s.ae [1,1,0]
   dsimp only [bringA,getA,aT] at s
   have s1:=s
   refine aA.any rfl rfl rfl rfl (OpR.oL rfl (s.ae [0,1]) (bE _ _) rfl rfl rfl rfl (by simp; omega)) ?_
   intro v4 h s
   have s:=s.del 1
   dsimp only [aT,bringA] at s
   have s2:=s
   refine zF rfl (ow _ _) (zL rfl (s.ld (k:=1) rfl bL rfl) (aA.any rfl rfl rfl rfl (OpR.call rfl rfl rfl rfl (Eo hT (s.ae [0,1]) (cJ _ _) (by simp; omega))) ?_))
   intro v5 h s
   dsimp only [aT,bringA] at s
   refine zA rfl ?_
   refine aA.nil ⟨⟨fun _ _=>.inr ⟨rfl,⟨_,bk rfl⟩,ng⟩,aa,aa,aa,fun _ _=>.inr ⟨rfl,⟨_,jE rfl (ow _ _)⟩,aW _ rfl⟩,wj (.inr ⟨rfl,⟨_,aV rfl (s0.ld (k:=1) rfl bL rfl)⟩,u3⟩) (.inr ⟨rfl,⟨_,aV rfl (s1.ld (k:=1) rfl bL rfl)⟩,u3⟩) (.inr ⟨rfl,⟨_,aV rfl (s2.ld (k:=1) rfl bL rfl)⟩,u3⟩),aa,aa,aa⟩,?_⟩
   refine zr rfl (zb rfl (by exact bQ (aU (by omega) (by omega))) ?_)
   refine zm rfl (zv ?_)
   refine Ho _ _ v5 ?_ ?_
   ·rw [U,hw]
    have s:=(s.del 1).del 1
    dsimp only [aT] at s
    simpa [bN] using s
   ·exact ⟨rfl,rfl,rfl,rfl,rfl,aa⟩
theorem Qm (J:W told){kd:Nat}{tx pv nx:Nat}{dt ch:V}{cs:List V}{data:List Nat}{aR:List cj}(s:Sat h (X::.arr 4 ch cs::cV cs aR::S))(hX:cT X (cU dt data))(hg:dK kd aR=true)(I:wB aR)
 (Fh:tx<18446744073709551616)(Y6:pv<18446744073709551616)(Fi:nx<18446744073709551616)(hlen:data.length+(aR.flatMap kK).length≤70368744177664):
  Call ⟨Tryz.prog,told⟩ 121 [.agg (iC kd tx pv nx dt ch)] h fun r h'=>Sat h' (bH r (cY kd tx pv nx data aR)::X::.arr 4 ch cs::cV cs aR::S):=by
 have U:=s.kJ (j:=1) rfl
 have iY:=s.aG (k:=0) rfl hX
 have Bb:=c8 iY
 have fW:=mS (kd:=kd) (tx:=tx) (pv:=pv) (nx:=nx) iY.cells.2 U.2.1
 have hk:1≤kd∧kd≤9:=by simp [dK] at hg; omega
 have lB:∀c∈aR,c.Ok:=by
  simp only [dK,aY,o_,ej] at hg
  exact hg.2
 have hm:=I.1
 have h1:=gH 9 tx
 have h2:=gH 9 pv
 have h3:=gH 9 nx
 have h4:=gH 9 data.length
 have h5:=gH 9 aR.length
 refine Call.of_wp (J.free _ rfl) Tryz.func121 rfl rfl (zg rfl (aB.cQ s rfl rfl rfl (gC rfl fW) ?_))
 intro p1 h s
 dsimp only [V.cells] at s
 refine zk 4 rfl (zf rfl (ux _ _) (zl rfl (s.ld (k:=0) rfl dr rfl) (zo rfl (bV rfl (by exact jF bF Tryz.underlying5 (VE (by omega) (by omega)))) ?_)))
 refine aB.any rfl rfl rfl (OpR.LB (n:=kd) rfl s rfl rfl rfl (by omega)) ?_
 intro v3 h s
 refine zk 5 rfl (zf rfl (Nt _ _) (zl rfl (s.ld (k:=1) rfl gj rfl) (zf rfl (Nu _ _) (zl rfl (s.ld (k:=1) rfl gj rfl) (zf rfl (Nv _ _) (zl rfl (s.ld (k:=1) rfl gj rfl) (zo rfl (c7 rfl (by rw [XL]; rfl)) ?_)))))))
 refine zk 2 rfl (WP.block (WP.loop (zg rfl (zt rfl (ah rfl rfl bu) (by decide) ?_))))
 refine zk 5 rfl (WP.block (zg rfl (zo rfl (Ec rfl rfl (r:=.int .u64 (tx:Int)) (by simp only [indexV,Hp,rq,oD,gj]; rfl)) ?_)))
 refine zk 5 rfl (zc rfl (pT J s (by omega) (by simp only [bA,bj,bY]; omega)) ?_)
 intro v3 h s
 refine za rfl (zv (zr rfl (zb rfl (by exact bQ (aU (by omega) (by omega))) ?_)))
 refine zm rfl (zv (WP.loop (zg rfl (zt rfl (ah rfl rfl bu) (by decide) ?_))))
 refine zk 5 rfl (WP.block (zg rfl (zo rfl (Ec rfl rfl (r:=.int .u64 (pv:Int)) (by simp only [indexV,Hp,rq,oD,gj]; rfl)) ?_)))
 refine zk 5 rfl (zc rfl (pT J s (by omega) (by simp only [bA,bj,bY]; omega)) ?_)
 intro v3 h s
 refine za rfl (zv (zr rfl (zb rfl (by exact bQ (aU (by omega) (by omega))) ?_)))
 refine zm rfl (zv (WP.loop (zg rfl (zt rfl (ah rfl rfl bu) (by decide) ?_))))
 refine zk 5 rfl (WP.block (zg rfl (zo rfl (Ec rfl rfl (r:=.int .u64 (nx:Int)) (by simp only [indexV,Hp,rq,oD,gj]; rfl)) ?_)))
 refine zk 5 rfl (zc rfl (pT J s (by omega) (by simp only [bA,bj,bY]; omega)) ?_)
 intro v3 h s
 refine za rfl (zv (zr rfl (zb rfl (by exact bQ (aU (by omega) (by omega))) ?_)))
 refine zm rfl (zv (WP.loop (zg rfl (zh rfl (ah rfl rfl bu) (by decide) ?_))))
 refine zk 3 rfl (WP.exit (zw ?_))
 have s0:=s
 have AY:=c8 (s.buf (k:=0) rfl).view
 refine WP.drawn [ai,ai,ai,ai,some (0,2),some (0,2),some (0,2),some (0,2),none,none] rfl (by kernel_rfl) (by kernel_rfl) ?_
 refine zM rfl (zF rfl (yL _ _) (zL rfl (s.ld (k:=1) rfl bL rfl) (aA.any rfl rfl rfl rfl (OpR.call rfl rfl rfl rfl (Eo J (s.ae [0,1]) hX (by simp only [bA,bj,bY]; omega))) ?_)))
 intro v4 h s
 have s:=s.ae [0,1,0]
 have s1:=s
 refine zF rfl (mR _ _) (zL rfl (s.ld (k:=1) rfl uw rfl) (zO rfl (a_ rfl rfl rfl (s.wA (j1:=3) (j2:=4) rfl rfl iM)) (aA.op rfl rfl rfl (by simp only [isEff,cq]) (bV rfl (by exact jF bF cq (eW (by omega) (by omega)))) ?_)))
 refine aA.any rfl rfl rfl rfl (OpR.call rfl rfl rfl rfl (pT J s (by omega) (by simp only [bA,bj,bY]; omega))) ?_
 intro v5 h s
 refine zA rfl ?_
 refine aA.nil ⟨⟨aa,aa,aa,aa,fun _ _=>.inr ⟨rfl,⟨_,jE rfl (mR _ _)⟩,aW _ rfl⟩,dO (.inr ⟨rfl,⟨_,aV rfl (s0.ld (k:=1) rfl uw rfl)⟩,U.2.2⟩) (.inr ⟨rfl,⟨_,aV rfl (s1.ld (k:=1) rfl uw rfl)⟩,U.2.2⟩),dO (.inr ⟨rfl,⟨_,a_ rfl rfl rfl (s0.wA (j1:=3) (j2:=4) rfl rfl iM)⟩,aW _ rfl⟩) (.inr ⟨rfl,⟨_,a_ rfl rfl rfl (s1.wA (j1:=3) (j2:=4) rfl rfl iM)⟩,aW _ rfl⟩),fun _ _=>.inr ⟨rfl,⟨_,bV rfl (by exact jF bF cq (eW (by omega) (by omega)))⟩,aW _ rfl⟩,aa,aa,aa⟩,?_⟩
 refine zK 3 rfl (zf rfl (mR _ _) (zl rfl (s.ld (k:=1) rfl uw rfl) (zo rfl (a_ rfl rfl rfl (s.wA (j1:=3) (j2:=4) rfl rfl iM)) (zk 2 rfl (WP.block ?_)))))
 have s:=s.ae [0,2,2,1]
 refine NY J lB I aR.length 0 v5 _ _ _ _ (by omega) (by rw [dS]; simp only [bA,bj,bY]; omega) s ⟨rfl,rfl,rfl,rfl,rfl,aa⟩ (fun E' h' VY gu s' => ?_)
 refine WP.has (F:=[(3,VY)]) ⟨gu,aa⟩ (zK 5 rfl (WP.ret ⟨aa,_,rfl,?_⟩))
 have Y7:=(s'.ae [0,2,0,0]).del 4
 dsimp only [List.cons_append,List.nil_append,List.drop,aT,bringA,getA] at Y7
 simpa [cY,bN] using Y7
end
def iq (aI:Nat)(b:List Nat): List Nat:=le 4 b.length++le 4 (tg aI b)++b
theorem mH (aI:Nat)(b:List Nat): (iq aI b).length=8+b.length:=by simp [iq,cX]; omega
theorem xq : ∃i,Tryz.prog.info? 3=some i∧i.size=1∧i.bytes=8 :=
 ⟨_,(show Tryz.prog.info? 3=some ((Tryz.prog.info? 3).getD default) by kernel_rfl),by kernel_rfl,by kernel_rfl⟩
section
variable {told:dH} {h:H} {S:List ax} {X:ax} {k q p:Nat} {v w:V} {l m:List Nat} {μ:Lg} {δ:Dk}
theorem Fj (I:W told){n:Nat}(s:Sat h S)(J:getA S k=some X)(U:cT X (cU v l))(hl:l.length≤4611686018427387904):
  Call ⟨Tryz.prog,told⟩ 100 [.int .u64 (n:Int),v] h fun r h'=>r=.int .u32 (tg n l:Nat)∧Sat h' S :=
 (NH I.Sk s.wf (s.aG J U) hl).mono fun _ _ ⟨h1,h2⟩=>⟨h1,s.cG h2⟩
structure CZ (tx pv nx:Nat)(data:List Nat)(aR:List cj): Prop where
 fit:wB aR
 tx:tx<18446744073709551616
 pv:pv<18446744073709551616
 nx:nx<18446744073709551616
 len:data.length+(aR.flatMap kK).length≤70368744177664
theorem NZ (J:W told){kd:Int}{tx pv nx aI:Nat}{dt ch:V}{cs:List V}{data:List Nat}{aR:List cj}(s:Sat h (X::.arr 4 ch cs::cV cs aR::S))(hX:cT X (cU dt data))(I:CZ tx pv nx data aR):
  Call ⟨Tryz.prog,told⟩ 88 [.agg (iC kd tx pv nx dt ch),.int .u64 (aI:Int)] h fun r h' =>
  (dK kd aR=false∧r=.bD [.bz,.int .i64 1]∧Sat h' (X::.arr 4 ch cs::cV cs aR::S)) ∨
  (dK kd aR=true∧1048576<(cY kd tx pv nx data aR).length∧r=.bD [.bz,.int .i64 2]∧Sat h' (X::.arr 4 ch cs::cV cs aR::S)) ∨
  (dK kd aR=true∧(cY kd tx pv nx data aR).length≤1048576∧∃u,r=.bD [u,.int .i64 0]∧Sat h' (bH u (iq aI (cY kd tx pv nx data aR))::X::.arr 4 ch cs::cV cs aR::S)):=by
 have jZ:=s.kJ (j:=1) rfl
 have U:=s.aG (k:=0) rfl hX
 have fW:=mS (kd:=kd) (tx:=tx) (pv:=pv) (nx:=nx) U.cells.2 jZ.2.1
 refine Call.of_wp (J.free _ rfl) Tryz.func88 rfl rfl (zg rfl (aB.cQ s rfl rfl rfl (gC rfl fW) ?_))
 intro p1 h s
 dsimp only [V.cells] at s
 refine zk 6 rfl (zl rfl (s.fG (k:=0) rfl nt gE) (zc rfl (Ht J (s.ae [2,2]) U.cells.2 I.fit) ?_))
 rintro r h' ⟨rfl,s⟩
 cases hg:dK kd aR with
 | false =>
  exact zo rfl (dX rfl rfl) (zk 7 rfl (WP.ret ⟨aa,_,rfl,.inl ⟨rfl,rfl,(s.ae [3,0,0]).del 3⟩⟩))
 | true =>
  refine zo rfl (dX rfl rfl) (zk 5 rfl (zl rfl (s.fG (k:=2) rfl nt gE) ?_))
  have hk:∃n:Nat,kd=n:=⟨kd.toNat,by simp [dK] at hg; omega⟩
  obtain ⟨kd,rfl⟩:=hk
  refine zc rfl (Qm J (s.ae [3,0,0]) hX hg I.fit I.tx I.pv I.nx I.len) ?_
  intro u h s
  dsimp only [bringA,getA,aT] at s
  have sK:(cY kd tx pv nx data aR).length<9223372036854775808:=by
   have h1:=gH 9 tx
   have h2:=gH 9 pv
   have h3:=gH 9 nx
   have h4:=gH 9 data.length
   have h5:=gH 9 aR.length
   have h6:=I.len
   simp only [cY,bA,bj,bY]
   omega
  generalize Ce:cY kd tx pv nx data aR=bd at s sK ⊢
  refine zk 6 rfl (zo rfl (a_ rfl rfl rfl (bg aS (s.aG (k:=0) rfl (bE _ _)))) ?_)
  by_cases Ep:1048576<bd.length
  ·skip
   refine zt rfl (ah rfl rfl dR) (by simp; omega) ?_
   exact zk 7 rfl (WP.ret ⟨aa,_,rfl,.inr (.inl ⟨rfl,Ep,rfl,(s.del 4).del 0⟩)⟩)
  ·skip
   refine zh rfl (ah rfl rfl dR) (by simp; omega) ?_
   refine zk 6 rfl (zo rfl (a_ rfl rfl rfl (bg aS (s.aG (k:=0) rfl (bE _ _)))) (zb rfl (by exact bQ (aU (by omega) (by omega))) ?_))
   refine aB.any rfl rfl rfl (OpR.wo (c:=8+bd.length) rfl s rfl rfl rfl rfl (by omega)) ?_
   intro v h s
   refine zm rfl (zo rfl (a_ rfl rfl rfl (bg aS (s.aG (k:=1) rfl (bE _ _)))) (zo rfl (bV rfl (by exact jF bF cq (eW (by omega) (by omega)))) ?_))
   refine zc rfl (wu (z:=4) J s (by decide) (by simp)) ?_
   intro v h s
   have bS:=(s.buf (k:=1) rfl).1
   refine zk 7 rfl (zc rfl (Fj (n:=aI) J s (k:=1) rfl (bE _ _) (by omega)) ?_)
   rintro r h ⟨rfl,s⟩
   have lK:=He (aI:=aI) bS
   refine zo rfl (bV rfl (by exact jF Tryz.underlying155 cq (eW (by omega) (by omega)))) ?_
   refine zc rfl (wu (z:=4) J s (by decide) (by simp [cX])) ?_
   intro v h s
   refine zk 6 rfl (aB.any rfl rfl rfl (OpR.oL rfl s (bE _ _) rfl rfl rfl rfl (by simp only [bA,cX,bY]; omega)) ?_)
   intro v h s
   refine zk 3 rfl (WP.ret ⟨aa,_,rfl,?_⟩)
   refine .inr (.inr ⟨rfl,by omega,v,rfl,?_⟩)
   have s:=(s.del 5).del 1
   dsimp only [aT] at s
   simpa [iq,bN] using s
def Lg.app (μ:Lg)(b:List Nat): Lg:={ μ with b:=μ.b++b,bq:=μ.bq++[μ.b.length] }
theorem LM (hT:W told){kd:Int}{tx pv nx:Nat}{dt ch:V}{cs:List V}{data:List Nat}{aR:List cj}(s:Sat h (bf q p μ::aD p δ::X::.arr 4 ch cs::cV cs aR::S))(hX:cT X (cU dt data))(iH:CZ tx pv nx data aR)
 (J:μ.Ok)(hf:δ.aF<4294967296)(hl:δ.log.length≤16777216)(hr:δ.room≤16777216):
  Call ⟨Tryz.prog,told⟩ 48 [.ptr q 0,.agg (iC kd tx pv nx dt ch)] h fun r h' =>
  (∃e:Int,r=.bD [.int .u64 0,.int .i64 e]∧((dK kd aR=false∧e=1)∨(dK kd aR=true∧1048576<(cY kd tx pv nx data aR).length∧e=2)∨(dK kd aR=true∧(cY kd tx pv nx data aR).length≤1048576∧δ.dead=true∧e=9) ∨
    (dK kd aR=true∧(cY kd tx pv nx data aR).length≤1048576∧δ.dead=false∧δ.room<δ.log.length+(iq (μ.base+μ.b.length) (cY kd tx pv nx data aR)).length∧e=7))∧Sat h' (bf q p μ::aD p δ::X::.arr 4 ch cs::cV cs aR::S)) ∨
  (dK kd aR=true∧(cY kd tx pv nx data aR).length≤1048576∧δ.dead=false∧δ.log.length+(iq (μ.base+μ.b.length) (cY kd tx pv nx data aR)).length≤δ.room∧δ.aF=0∧r=.bD [.int .u64 0,.int .i64 9] ∧
   Sat h' (bf q p μ::aD p { δ.die with tail:=iq (μ.base+μ.b.length) (cY kd tx pv nx data aR) }::X::.arr 4 ch cs::cV cs aR::S)) ∨
  (dK kd aR=true∧(cY kd tx pv nx data aR).length≤1048576∧δ.dead=false∧δ.log.length+(iq (μ.base+μ.b.length) (cY kd tx pv nx data aR)).length≤δ.room∧δ.aF≠0∧r=.bD [.int .u64 ((μ.base+μ.b.length:Nat):Int),.int .i64 0] ∧
   Sat h' (bf q p (μ.app (iq (μ.base+μ.b.length) (cY kd tx pv nx data aR)))::aD p { δ.c_ with log:=δ.log++iq (μ.base+μ.b.length) (cY kd tx pv nx data aR) }::X::.arr 4 ch cs::cV cs aR::S)):=by
 have jZ:=s.kJ (j:=3) rfl
 have iY:=s.aG (k:=2) rfl hX
 have fW:=mS (kd:=kd) (tx:=tx) (pv:=pv) (nx:=nx) iY.cells.2 jZ.2.1
 have xo:=J.size
 refine Call.of_wp (hT.free _ rfl) Tryz.func48 rfl rfl (zg rfl (aB.cQ s rfl rfl rfl (gC rfl fW) ?_))
 intro p1 h s
 dsimp only [V.cells] at s
 have s:=s.ae [1,0]
 refine zk 6 rfl (zc rfl (nV hT s J.size) ?_)
 rintro v h' ⟨rfl,rfl⟩
 refine zk 4 rfl (zl rfl (s.fG (k:=1) rfl nt gE) (zm rfl (zc rfl (NZ (aI:=μ.base+μ.b.length) hT (s.ae [3,3,3]) hX iH) ?_)))
 generalize hrc:iq (μ.base+μ.b.length) (cY kd tx pv nx data aR)=rc
 have Fk:rc.length=8+(cY kd tx pv nx data aR).length:=by rw [←hrc,mH]
 rintro r h' (⟨hg,rfl,s⟩ | ⟨hg,Ep,rfl,s⟩ | ⟨hg,U,u,rfl,s⟩)
 ·dsimp only [bringA,getA,aT] at s
  exact zk 10 rfl (zt rfl (ah rfl rfl aX) (rfl) (zk 8 rfl (WP.ret ⟨aa,_,rfl,.inl ⟨1,rfl,.inl ⟨hg,rfl⟩,(s.ae [3,4,0,0,0]).del 5⟩⟩)))
 ·dsimp only [bringA,getA,aT] at s
  exact zk 10 rfl (zt rfl (ah rfl rfl aX) (rfl) (zk 8 rfl (WP.ret ⟨aa,_,rfl,.inl ⟨2,rfl,.inr (.inl ⟨hg,Ep,rfl⟩),(s.ae [3,4,0,0,0]).del 5⟩⟩)))
 ·dsimp only [bringA,getA,aT] at s
  have bS:=(s.buf (k:=0) rfl).1
  obtain ⟨yb,_,cap,_,rfl,_⟩:=s.kB (by omega)
  obtain ⟨bv,sv,s⟩:=dc.1 (s.ae [4])
  refine zk 10 rfl (zh rfl (ah rfl rfl aX) (rfl) (zk 8 rfl (zf rfl (pK _ _) (zl rfl (s.ld (k:=0) rfl jR rfl) (zm rfl ?_)))))
  have s:=s.ae [8,3]
  refine zc rfl (LI hT s (bE _ _) (by omega) hf (by omega) (by omega)) ?_
  rintro r h (⟨hd,rfl,s⟩ | ⟨hd,Sr,rfl,s⟩ | ⟨hd,I,h0,rfl,s⟩ | ⟨hd,I,h0,rfl,s⟩)
  ·refine aB.op rfl rfl rfl (eZ rfl) ?_
   exact zk 4 rfl (zt rfl (ah rfl rfl aX) (rfl) (zk 8 rfl (WP.ret ⟨aa,_,rfl,.inl ⟨9,rfl,.inr (.inr (.inl ⟨hg,U,hd,rfl⟩)),(dc.2 ⟨bv,sv,((s.ae [2,2,2,0,1,1,1]).del 8).del 7⟩)⟩⟩)))
  ·skip
   exact zk 5 rfl (zt rfl (ah rfl rfl aX) (rfl) (zk 8 rfl (WP.ret ⟨aa,_,rfl,.inl ⟨7,rfl,.inr (.inr (.inr ⟨hg,U,hd,by omega,rfl⟩)),(dc.2 ⟨bv,sv,((s.ae [2,2,2,0,1,1,1]).del 8).del 7⟩)⟩⟩)))
  ·skip
   exact zk 5 rfl (zt rfl (ah rfl rfl aX) (rfl) (zk 8 rfl (WP.ret ⟨aa,_,rfl,.inr (.inl ⟨hg,U,hd,I,h0,rfl,(dc.2 ⟨bv,sv,((s.ae [2,2,2,0,1,1,1]).del 8).del 7⟩)⟩)⟩)))
  ·skip
   have s:=s.ae [2,2,2,1,0,0,0,0]
   refine zk 5 rfl (zh rfl (ah rfl rfl aX) (rfl) (zk 4 rfl ?_))
   have s0:=s
   have VZ:=c8 (s.buf (k:=1) rfl).view
   have Bh:=(s.kJ (j:=2) rfl).2.2
   refine WP.drawn [some (0,3),some (0,2),some (0,2),some (0,2),some (0,2),ai,ai,ai,ai,ai,ai,ai,ai,ai,ai] rfl (by kernel_rfl) (by kernel_rfl) ?_
   refine zM rfl (zM rfl (zN rfl (zF rfl (iW _ _) (zL rfl (s.ld (k:=0) rfl qp rfl) (zM rfl (zN rfl (zF rfl (eF _ _) (zL rfl (s.ld (k:=0) rfl bL rfl) (zO rfl (a_ rfl rfl rfl (bg aS (s.aG (k:=1) rfl (bE _ _)))) ?_)))))))))
   obtain ⟨i1,lN,jX,sN⟩:=xq
   obtain ⟨iv,h1,e1,s1⟩:=nR (P:=Tryz.prog) (k:=1) (x:=.int .i64 (μ.b.length:Int)) s eC E5 jG rfl (by decide) (by decide) rfl rfl
   dsimp only [V.cells] at s1
   refine aA.any rfl rfl rfl rfl (OpR.of (R:=fun v h'=>v=iv∧h'=h1) (oJ rfl e1) ⟨rfl,rfl⟩) ?_
   rintro v h' ⟨rfl,rfl⟩
   have xn:=J.many
   obtain ⟨VY,h2,e2,s2⟩:=jx (s1.ae [3,0]) eC lN E5 jX (by omega) rfl (by decide) (by simp only [ke,bj,bY]; omega)
   refine aA.any rfl rfl rfl rfl (OpR.of (R:=fun v h'=>v=VY∧h'=h2) (oE rfl rfl e2) ⟨rfl,rfl⟩) ?_
   rintro v h' ⟨rfl,rfl⟩
   have hv:=s2.kJ (j:=0) rfl
   refine zN rfl (zF rfl (iW _ _) (aA.g8 rfl rfl rfl (OpR.d_ rfl rfl rfl (s2.dQ (k:=2) rfl P8 rfl (by decide) hv.1 hv.2.1)) ?_))
   rintro v h ⟨rfl,s⟩
   refine aA.nil ⟨⟨fun _ _=>.inr ⟨rfl,⟨_,bk rfl⟩,aW _ rfl⟩,fun _ _=>.inr ⟨rfl,⟨_,bk rfl⟩,aW _ rfl⟩,fun _ _=>.inr ⟨rfl,⟨_,j5 rfl⟩,aW _ rfl⟩,fun _ _=>.inr ⟨rfl,⟨_,jE rfl (iW _ _)⟩,aW _ rfl⟩,dO (.inr ⟨rfl,⟨_,aV rfl (s0.ld (k:=0) rfl qp rfl)⟩,Bh⟩) (.inr ⟨rfl,⟨_,aV rfl (s1.ld (k:=1) rfl qp rfl)⟩,Bh⟩),aa,aa,aa,aa,aa,aa,aa,aa,aa,aa,aa⟩,?_⟩
   refine zK 5 rfl (zf rfl (eF _ _) (zl rfl (s.ld (k:=2) rfl bL rfl) (zm rfl (aB.any rfl rfl rfl (OpR.oL rfl (s.ae [3,3]) (bE _ _) rfl rfl rfl rfl (by have:=J.len; omega)) ?_))))
   intro bv' h s
   have hv:=(s.buf (k:=0) rfl).view.cells
   refine zn rfl (zf rfl (eF _ _) (zS rfl (s.dQ (k:=4) rfl jl rfl (by decide) hv.1 hv.2) ?_))
   intro h s
   refine zk 7 rfl (WP.ret ⟨aa,_,rfl,?_⟩)
   refine .inr (.inr ⟨hg,U,hd,I,h0,rfl,dc.2 ⟨bv',v,?_⟩⟩)
   have s:=(((s.ae [4,0,1]).del 4).del 3).del 7
   have e:gJ (μ.app rc).bq=gJ μ.bq++[.int .i64 (μ.b.length:Int)]:=by simp [Lg.app,gJ]
   rw [e]
   exact s
end
end Go.Proofs.YtconhghphklfjaaGreat.Am
