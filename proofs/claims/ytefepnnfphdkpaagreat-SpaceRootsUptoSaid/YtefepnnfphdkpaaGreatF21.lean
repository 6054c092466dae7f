/- SpaceRoots: a part of its proof; conditions: its statement's. -/
import Derived.Test.YtefepnnfphdkpaaGreatF20
set_option linter.defProp false
namespace Go.Proofs.YtefepnnfphdkpaaGreat.Am
open Go
def iO:=@Tryz.underlying46
def HW:=@Tryz.underlying244
structure cq where
 aL:Int
 pos:Int
 whole:Bool
 b:List Nat
def cq.Ok (c:cq): Prop:=0≤c.aL∧c.aL<65536∧0≤c.pos∧c.pos≤512∧(c.b.length:Int)≤512-c.pos∧(c.whole=true→c.pos=0∧c.b.length=512)
instance (c:cq):Decidable c.Ok:=by unfold cq.Ok; infer_instance
def dD (kind:Int)(aM:List cq): Bool:=decide (1≤kind∧kind≤9)&&aM.all fun c=>decide c.Ok
def gT (kd:Int)(tx pv nx:Nat)(dt ch:V): List V:=[.int .i64 kd,.int .u64 (tx:Int),.int .u64 (pv:Int),.int .u64 (nx:Int),dt,ch]
theorem mP {kd:Int}{tx pv nx:Nat}{dt ch:V}(I:storable dt=true)(J:storable ch=true): (gT kd tx pv nx dt ch).all storable=true:=by
 simp only [gT,fH,jh,I,J]
 rfl
def dg : List V→List cq→au
 | [],[]=>.pu True
 | p::a::w::v::l,x::m=>.an (.an (.pu (p=.int .i64 x.aL∧a=.int .i64 x.pos∧w=.bool x.whole)) (.cx v x.b)) (dg l m)
 | _,_=>.pu False
theorem aW.nF : ∀(m:List cq) (l:List V),aW (dg l m):=by
 intro m
 induction m with
 | nil=>intro l; rcases l with _ | ⟨a,_ | ⟨b,_ | ⟨c,_ | ⟨d,l⟩⟩⟩⟩ <;> exact aW.pu _
 | cons x m I=>intro l; rcases l with _ | ⟨a,_ | ⟨b,_ | ⟨c,_ | ⟨d,l⟩⟩⟩⟩ <;> first | exact aW.pu _ | exact aW.an (aW.an (aW.pu _) (aW.cx _ _)) (I l)
theorem oS {a b:PM}: ∀ {m:List cq} {l:List V},(dg l m).p a b→l.length=m.length*4:=by
 intro m
 induction m with
 | nil=>intro l h; rcases l with _ | ⟨x,_ | ⟨y,_ | ⟨z,_ | ⟨d,l⟩⟩⟩⟩ <;> first | rfl | exact h.elim
 | cons x m I =>
  intro l h
  rcases l with _ | ⟨x,_ | ⟨y,_ | ⟨z,_ | ⟨d,l⟩⟩⟩⟩ <;> first | exact h.elim | skip
  have:=I h.2
  simp only [aS]
  omega
theorem xE {a b:PM}: ∀ {m m':List cq} {l I:List V},(dg l m).p a b→(dg I m').p a b→(dg (l++I) (m++m')).p a b:=by
 intro m
 induction m with
 | nil=>intro m' l I h h'; rcases l with _ | ⟨x,_ | ⟨y,_ | ⟨z,_ | ⟨d,l⟩⟩⟩⟩ <;> first | exact h' | exact h.elim
 | cons x m J =>
  intro m' l I h h'
  rcases l with _ | ⟨x,_ | ⟨y,_ | ⟨z,_ | ⟨d,l⟩⟩⟩⟩ <;> first | exact h.elim | exact ⟨h.1,J h.2 h'⟩
theorem HX {a b:PM}: ∀ {m:List cq} {l:List V} {i:Nat} {c:cq},(dg l m).p a b→m[i]?=some c→∃u,(l.drop (i*4)).take 4=[.int .i64 c.aL,.int .i64 c.pos,.bool c.whole,u]∧(au.cx u c.b).p a b:=by
 intro m
 induction m with
 | nil=>intro l i c h I; simp at I
 | cons x m J =>
  intro l i c h I
  rcases l with _ | ⟨p,_ | ⟨q,_ | ⟨w,_ | ⟨v,l⟩⟩⟩⟩ <;> first | exact h.elim | skip
  obtain ⟨⟨⟨h1,h2,h3⟩,h4⟩,h5⟩:=h
  cases i with
  | zero=>simp at I; subst I; exact ⟨v,by rw [h1,h2,h3]; rfl,h4⟩
  | succ i =>
   simp at I
   obtain ⟨u,e1,e2⟩:=J h5 I
   refine ⟨u,?_,e2⟩
   rw [←e1,show (i+1)*4=i*4+4 by omega]
   rfl
section
variable {told:cQ} {h:H} {S:List au} {X:au} {k q p:Nat} {v:V} {l:List Nat}
theorem HY {ch:V}{cs:List V}{m:List cq}{i:Nat}{c:cq}(s:Sat h (.arr 4 ch cs::dg cs m::S))(hc:m[i]?=some c):
  ∃id off u,indexAddrV Tryz.prog 46 ch (.int .i64 (i:Int))=some (.ptr id off)∧loadV Tryz.prog h 180 (.ptr id off)=some (.agg [.int .i64 c.aL,.int .i64 c.pos,.bool c.whole,u]) ∧
   u.cells=[u]∧storable u=true∧u.beq u=true∧Sat h (.cx u c.b::.arr 4 ch cs::dg cs m::S):=by
 obtain ⟨a,b,q1,q2,q3⟩:=s.at (k:=1) rfl
 have HJ:=(List.getElem?_eq_some_iff.1 hc).1
 have hl:=oS q3
 obtain ⟨u,e1,e2⟩:=HX q3 hc
 obtain ⟨id,off,g1,J⟩:=Ov (P:=Tryz.prog) (i:=i) s (j:=0) rfl (by omega) (by decide) iO oL
 have J:=J GJ
 rw [e1] at J
 have s2:Sat h (dg cs m::.arr 4 ch cs::S):=s.ae [1]
 have s3:=(s2.dup (aW.nF _ _)).hO (B:=.cx u c.b) fun a b h=>by
  obtain ⟨u',I,rZ⟩:=HX h hc
  rw [e1] at I
  injection I with _ I
  injection I with _ I
  injection I with _ I
  injection I with I _
  subst I
  exact rZ
 have hu:=(s3.aE (k:=0) rfl (dy _ _))
 exact ⟨id,off,u,g1,J,hu.cells.1,hu.cells.2,dz hu,s3.ae [0,1,0]⟩
theorem KT {ch:V}{cs:List V}{m:List cq}{j1 j2:Nat}{P:Program}{t e:TypeId}(s:Sat h S)(I:getA S j1=some (.arr 4 ch cs))(J:getA S j2=some (dg cs m))(hu:P.underlying t=some (.slice e)): lenV P h t ch=some (.int .i64 m.length):=by
 obtain ⟨a,b,q1,q2,q3⟩:=s.at J
 exact s.iB I (oS q3) (by decide) hu
theorem Sat.wN {ch:V}{cs:List V}{m:List cq}{j1 j2:Nat}{P:Program}{t e:TypeId}(s:Sat h S)(I:getA S j1=some (.arr 4 ch cs))(J:getA S j2=some (dg cs m))(hu:P.underlying t=some (.slice e)): lenV P h t ch=some (.int .i64 m.length):=KT s I J hu
noncomputable def ZT : Code:=dB [1,1,0,1,0,0] ((Tryz.f161.body).getD .skip)
theorem Mv {p1:Nat}{ch:V}{cs:List V}{m:List cq}: ∀(j i:Nat) (h:H) (E:List (Nat×V)) (Q:Ex→List (Nat×V)→H→Prop),i+j=m.length→m.length<4294967296→(∀c∈m,c.b.length<9223372036854775808) →
  (∀c∈m, -4294967296≤c.pos∧c.pos≤4294967296)→Sat h (.arr 4 ch cs::dg cs m::S)→Has E [(1,.ptr p1 0),(14,ch),(15,.int .i64 m.length),(16,.int .i64 i)] →
  ((m.drop i).all (fun c=>decide c.Ok)=false→∀E' h',look E' 2=some (.bool false)→Sat h' (.arr 4 ch cs::dg cs m::S)→Q .ret E' h') →
  ((m.drop i).all (fun c=>decide c.Ok)=true→∀E' h',Sat h' (.arr 4 ch cs::dg cs m::S)→Q (.exit 0) E' h')→WP ⟨Tryz.prog,told⟩ 61 (.loop ZT) E h Q:=by
 intro j
 induction j with
 | zero =>
  intro i h E Q hi hm hb J s hE hr hx
  refine WP.loop (WP.has hE (zg rfl (zh rfl (af rfl rfl aT) (by simp; omega) ?_)))
  exact zk 3 rfl (WP.exit (hx (by rw [je (by omega)]; rfl) _ _ s))
 | succ j ih =>
  intro i h E Q hi hm hb J s hE hr hx
  have hc:m[i]?=some (m[i]'(by omega)):=bf _
  generalize (m[i]'(by omega))=c at hc
  have FH:=bC hc
  have ZU:=hb c FH
  have WZ:=J c FH
  have qh:m.drop i=c::m.drop (i+1):=by
   have:=List.getElem?_eq_some_iff.1 hc
   obtain ⟨h1,rfl⟩:=this
   exact oW h1
  rw [qh,fH] at hr hx
  obtain ⟨id,off,u,e1,e2,u1,u2,u3,s⟩:=HY s hc
  refine WP.loop (WP.has hE (zg rfl (zt rfl (af rfl rfl aT) (by simp; omega) ?_)))
  refine zk 5 rfl (WP.block (zg rfl (zo rfl (dr (r:=.ptr id off) rfl rfl e1) (zl rfl e2 ?_))))
  refine aA.b5 s rfl rfl rfl (bX nY) (fun p4 h s => ?_)
  dsimp only [V.cells,List.length_cons,List.length_nil,Nat.reduceAdd] at s
  refine zS rfl (s.eH (j:=0) rfl oL rfl (by simp only [fH,jh,u2]; rfl)) ?_
  intro h s
  dsimp only [setA] at s
  refine zk 4 rfl (zf rfl (nZ _ _) (zl rfl (s.ld (k:=0) rfl dL rfl) ?_))
  refine zd rfl (af rfl rfl aT) ?_ ?_
  ·intro tR
   have tR:c.aL<0:=by simp at tR; omega
   exact zk 30 rfl (WP.ret (hr (by rw [eU (fun q:c.Ok=>by have:=q.1; omega),gZ]) _ _ rfl s.drop.drop))
  ·intro tR
   have tR:¬ (c.aL<0):=by simp at tR; omega
   refine zm rfl (zf rfl (nZ _ _) (zl rfl (s.ld (k:=0) rfl dL rfl) ?_))
   refine zd rfl (af rfl rfl mG) ?_ ?_
   ·intro CL
    have CL:65536≤c.aL:=by simp at CL; omega
    exact zk 26 rfl (WP.ret (hr (by rw [eU (fun q:c.Ok=>by have:=q.2.1; omega),gZ]) _ _ rfl s.drop.drop))
   ·intro CL
    have CL:¬ (65536≤c.aL):=by simp at CL; omega
    refine zk 2 rfl (zf rfl (pz _ _) (zl rfl (s.ld (k:=0) rfl dL rfl) ?_))
    refine zd rfl (af rfl rfl aT) ?_ ?_
    ·intro iF
     have iF:c.pos<0:=by simp at iF; omega
     exact zk 21 rfl (WP.ret (hr (by rw [eU (fun q:c.Ok=>by have:=q.2.2.1; omega),gZ]) _ _ rfl s.drop.drop))
    ·intro iF
     have iF:¬ (c.pos<0):=by simp at iF; omega
     refine zk 2 rfl (zf rfl (pz _ _) (zl rfl (s.ld (k:=0) rfl dL rfl) ?_))
     refine zd rfl (af rfl rfl gv) ?_ ?_
     ·intro OQ
      have OQ:512<c.pos:=by simp at OQ; omega
      exact zk 16 rfl (WP.ret (hr (by rw [eU (fun q:c.Ok=>by have:=q.2.2.2.1; omega),gZ]) _ _ rfl s.drop.drop))
     ·intro OQ
      have OQ:¬ (512<c.pos):=by simp at OQ; omega
      refine zk 2 rfl (zf rfl (m6 _ _) (zl rfl (s.ld (k:=0) rfl bJ rfl) (zo rfl (aU rfl rfl rfl (a_ aG (s.aE (k:=1) rfl (dy _ _)))) (zf rfl (pz _ _) (zl rfl (s.ld (k:=0) rfl dL rfl) (zb rfl (by exact jE (aC (by omega) (by omega))) ?_))))))
      refine zd rfl (af rfl rfl gv) ?_ ?_
      ·intro pJ
       have pJ:512-c.pos<(c.b.length:Int):=by simp at pJ; omega
       exact zk 7 rfl (WP.ret (hr (by rw [eU (fun q:c.Ok=>by have:=q.2.2.2.2.1; omega),gZ]) _ _ rfl s.drop.drop))
      ·intro pJ
       have pJ:¬ (512-c.pos<(c.b.length:Int)):=by simp at pJ; omega
       refine zk 6 rfl (zf rfl (wF _ _) ?_)
       have sF:∀(h:H) (E:List (Nat×V)),c.Ok→Sat h (.arr 4 ch cs::dg cs m::S)→Has E [(1,.ptr p1 0),(14,ch),(15,.int .i64 m.length),(16,.int .i64 ((i:Int)+1))]→WP ⟨Tryz.prog,told⟩ 61 (.loop ZT) E h Q:=by
        intro h E me s hE
        rw [fo me,AB] at hr hx
        exact ih (i+1) h E Q (by omega) hm hb J s hE hr hx
       have Nu:c.whole=false∨c.whole=true:=by cases c.whole <;> simp
       rcases Nu with hw | hw
       ·skip
        refine zh rfl (bh rfl (by exact s.ld (k:=0) rfl kX rfl)) (hw) ?_
        refine zk 11 rfl (zv (zj rfl (WP.skip (zr rfl (zb rfl (by exact br (aC (by omega) (by omega))) ?_)))))
        refine zm rfl (zv ?_)
        refine sF _ _ ?_ ?_ ?_
        ·exact ⟨by omega,by omega,by omega,by omega,by omega,fun e=>by rw [hw] at e; cases e⟩
        ·exact s.drop.drop
        ·exact ⟨rfl,rfl,rfl,rfl,aa⟩
       ·skip
        refine zt rfl (bh rfl (s.ld (k:=0) rfl kX rfl)) (hw) (zm rfl (zf rfl (pz _ _) (zl rfl (s.ld (k:=0) rfl dL rfl) ?_)))
        refine zd rfl (af rfl rfl aN) ?_ ?_
        ·intro hp
         have hp:c.pos≠0:=by simp at hp; omega
         exact zk 13 rfl (WP.ret (hr (by rw [eU (fun q:c.Ok=>hp (q.2.2.2.2.2 hw).1),gZ]) _ _ rfl s.drop.drop))
        ·intro hp
         have hp:c.pos=0:=by simp at hp; omega
         refine zm rfl (zf rfl (m6 _ _) (zl rfl (s.ld (k:=0) rfl bJ rfl) (zo rfl (aU rfl rfl rfl (a_ aG (s.aE (k:=1) rfl (dy _ _)))) ?_)))
         refine zd rfl (af rfl rfl aN) ?_ ?_
         ·intro I
          have I:c.b.length≠512:=by simp at I; omega
          exact zk 8 rfl (WP.ret (hr (by rw [eU (fun q:c.Ok=>I (q.2.2.2.2.2 hw).2),gZ]) _ _ rfl s.drop.drop))
         ·intro I
          have I:c.b.length=512:=by simp at I; omega
          refine zk 2 rfl (zv (zj rfl (WP.skip (zr rfl (zb rfl (by exact br (aC (by omega) (by omega))) ?_)))))
          refine zm rfl (zv ?_)
          refine sF _ _ ?_ ?_ ?_
          ·exact ⟨by omega,by omega,by omega,by omega,by omega,fun _=>⟨hp,I⟩⟩
          ·exact s.drop.drop
          ·exact ⟨rfl,rfl,rfl,rfl,aa⟩
def zR (m:List cq): Prop:=m.length<4294967296∧(∀c∈m,c.b.length<4294967296)∧(∀c∈m, -4294967296≤c.pos∧c.pos≤4294967296)
theorem HZ (hT:W told){kd:Int}{tx pv nx:Nat}{dt ch:V}{cs:List V}{m:List cq}(s:Sat h (.arr 4 ch cs::dg cs m::S))(hd:storable dt=true)(hm:zR m):
  Call ⟨Tryz.prog,told⟩ 161 [.agg (gT kd tx pv nx dt ch)] h fun r h'=>r=.bool (dD kd m)∧Sat h' (.arr 4 ch cs::dg cs m::S):=by
 have jT:=s.jb (j:=0) rfl
 have fN:=mP (kd:=kd) (tx:=tx) (pv:=pv) (nx:=nx) hd jT.2.1
 refine Call.of_wp (hT.free _ rfl) Tryz.func161 rfl rfl (zg rfl (aA.b5 s rfl rfl rfl (fe rfl fN) ?_))
 intro p1 h s
 refine zk 5 rfl (zf rfl (uh _ _) (zl rfl (s.ld (k:=0) rfl dL rfl) ?_))
 refine zd rfl (af rfl rfl aT) ?_ ?_
 ·intro J
  have J:kd<1:=by simpa using J
  exact zk 11 rfl (WP.ret ⟨aa,_,rfl,by rw [dD,eU (by omega),gZ],s.drop⟩)
 ·intro J
  have J:1≤kd:=by simpa using J
  refine zm rfl (zf rfl (uh _ _) (zl rfl (s.ld (k:=0) rfl dL rfl) ?_))
  refine zd rfl (af rfl rfl gv) ?_ ?_
  ·intro I
   have I:9<kd:=by simpa using I
   exact zk 7 rfl (WP.ret ⟨aa,_,rfl,by rw [dD,eU (by omega),gZ],s.drop⟩)
  ·intro I
   have I:kd≤9:=by simpa using I
   refine zk 7 rfl (zf rfl (mO _ _) (zl rfl (s.ld (k:=0) rfl ug rfl) (zo rfl (aU rfl rfl rfl (KT s (j1:=1) (j2:=2) rfl rfl iO)) (zk 2 rfl (WP.block ?_)))))
   have hg:dD kd m=m.all (fun c=>decide c.Ok):=by rw [dD,fo ⟨J,I⟩,AB]
   refine Mv m.length 0 _ _ _ (by omega) hm.1 (fun c hc=>by have:=hm.2.1 c hc; omega) hm.2.2 s.drop ⟨rfl,rfl,rfl,rfl,aa⟩ (fun hf E' h' h2 s' => ?_) (fun hf E' h' s' => ?_)
   ·rw [hg]
    rw [eu] at hf
    rw [hf]
    exact ⟨aa,_,ue h2,rfl,s'⟩
   ·rw [hg]
    rw [eu] at hf
    rw [hf]
    exact WP.has (F:=[]) aa (zK 4 rfl (WP.ret ⟨aa,_,rfl,rfl,s'⟩))
end
def kC (c:cq): List Nat:=digits 9 c.aL.toNat++digits 9 c.pos.toNat++[if c.whole then 1 else 0]++(digits 9 c.b.length++c.b)
def dK (kd:Int)(tx pv nx:Nat)(data:List Nat)(aM:List cq): List Nat :=
 [kd.toNat]++digits 9 tx++digits 9 pv++digits 9 nx++(digits 9 data.length++data)++digits 9 aM.length++aM.flatMap kC
section
variable {told:cQ} {h:H} {S:List au} {X:au} {k q p:Nat} {v w:V} {l m:List Nat}
theorem pK (I:W told){n:Nat}(s:Sat h (aZ v l::S))(hn:n<18446744073709551616)(hl:l.length≤140737488355000):
  Call ⟨Tryz.prog,told⟩ 176 [v,.int .u64 (n:Int)] h fun r h'=>Sat h' (aZ r (l++digits 9 n)::S) :=
 (FD I.Tv (k:=9) s.wf (s.buf (k:=0) rfl) (by omega) (by omega) (by omega)).mono fun _ _ ⟨J,h2,h3⟩=>s.AR h2 J h3
theorem ET (hT:W told)(s:Sat h (aZ v l::X::S))(I:cT X (cU w m))(hl:l.length+m.length≤140737488355000):
  Call ⟨Tryz.prog,told⟩ 177 [v,w] h fun r h'=>Sat h' (aZ r (l++(digits 9 m.length++m))::X::S) :=
 (UA hT.Tv (k:=9) s.wf (s.buf (k:=0) rfl) (s.aE (k:=1) rfl I) (s.WT I) (by omega) (by omega) (by omega)).mono fun _ _ ⟨J,h2,h3⟩=>by
  rw [bS] at J
  exact s.AR h2 J h3
noncomputable def ZV : Code:=dB [1,1,1,1,0,1,0,0] ((Tryz.f162.body).getD .skip)
theorem OR (hT:W told){p1:Nat}{ch:V}{cs:List V}{aM:List cq}(me:∀c∈aM,c.Ok)(J:zR aM): ∀(j i:Nat) (sv:V) (l:List Nat) (h:H) (E:List (Nat×V)) (Q:Ex→List (Nat×V)→H→Prop),i+j=aM.length →
  l.length+((aM.drop i).flatMap kC).length≤140737488355000 →
  Sat h (aZ sv l::.arr 4 ch cs::dg cs aM::S)→Has E [(1,.ptr p1 0),(3,sv),(37,ch),(38,.int .i64 aM.length),(39,.int .i64 i)] →
  (∀E' h' I,look E' 3=some I→Sat h' (aZ I (l++(aM.drop i).flatMap kC)::.arr 4 ch cs::dg cs aM::S)→Q (.exit 2) E' h')→WP ⟨Tryz.prog,told⟩ 63 (.loop ZV) E h Q:=by
 intro j
 induction j with
 | zero =>
  intro i sv l h E Q hi hlen s hE hx
  have hm:=J.1
  refine WP.loop (WP.has hE (zg rfl (zh rfl (af rfl rfl aT) (by simp; omega) ?_)))
  refine zk 3 rfl (WP.exit (hx _ _ sv rfl ?_))
  rw [je (by omega)]
  simpa using s
 | succ j ih =>
  intro i sv l h E Q hi hlen s hE hx
  have hm:=J.1
  have hc:aM[i]?=some (aM[i]'(by omega)):=bf _
  generalize (aM[i]'(by omega))=c at hc
  have FH:=bC hc
  have aaP:=me c FH
  have ZU:=J.2.1 c FH
  have qh:aM.drop i=c::aM.drop (i+1):=by
   obtain ⟨h1,rfl⟩:=List.getElem?_eq_some_iff.1 hc
   exact oW h1
  rw [qh,qG] at hlen hx
  obtain ⟨pg,ps,wh,bb⟩:=c
  obtain ⟨q1,q2,q3,q4,_⟩:=aaP
  dsimp only at q1 q2 q3 q4 ZU
  obtain ⟨pg,rfl⟩:∃n:Nat,pg=n:=⟨pg.toNat,by omega⟩
  obtain ⟨ps,rfl⟩:∃n:Nat,ps=n:=⟨ps.toNat,by omega⟩
  have Rc:kC ⟨pg,ps,wh,bb⟩=digits 9 pg++digits 9 ps++[if wh then 1 else 0]++(digits 9 bb.length++bb):=by simp [kC]
  have Ky:(kC ⟨pg,ps,wh,bb⟩).length=(digits 9 pg).length+(digits 9 ps).length+1+(digits 9 bb.length).length+bb.length:=by rw [Rc]; simp; omega
  rw [bx,Ky] at hlen
  obtain ⟨id,off,u,e1,e2,u1,u2,u3,s⟩:=HY (s.ae [1,1]) hc
  dsimp only at e2
  have s:=s.ae [3,0,0,0]
  dsimp only [aQ,bringA,getA] at s
  refine WP.loop (WP.has hE (zg rfl (zt rfl (af rfl rfl aT) (by simp; omega) ?_)))
  refine zk 5 rfl (WP.block (zg rfl (zo rfl (dr (r:=.ptr id off) rfl rfl e1) (zl rfl e2 ?_))))
  refine aA.b5 s rfl rfl rfl (bX nY) (fun p7 h s => ?_)
  dsimp only [V.cells,List.length_cons,List.length_nil,Nat.reduceAdd] at s
  refine zS rfl (s.eH (j:=0) rfl oL rfl (by simp only [fH,jh,u2]; rfl)) ?_
  intro h s
  dsimp only [setA] at s
  refine zk 2 rfl ?_
  have s:=s.ae [1,0]
  dsimp only [bringA,getA,aQ] at s
  have s0:=s
  refine WP.drawn [ai,ai,ai,ai,ai,some (0,2),some (0,2),some (0,2),none,none] rfl (by kernel_rfl) (by kernel_rfl) ?_
  refine zM rfl (zF rfl (nZ _ _) (zL rfl (s.ld (k:=1) rfl dL rfl) (aB.op rfl rfl rfl (by simp only [isEff,cE]) (cJ rfl (by exact iZ bD cE (fD (by omega) (by omega)))) ?_)))
  refine aB.any rfl rfl rfl rfl (OpR.call rfl rfl rfl rfl (pK hT s (by omega) (by omega))) ?_
  intro v1 h s
  have s1:=s
  refine zF rfl (pz _ _) (zL rfl (s.ld (k:=1) rfl dL rfl) (aB.op rfl rfl rfl (by simp only [isEff,cE]) (cJ rfl (by exact iZ bD cE (fD (by omega) (by omega)))) ?_))
  refine aB.any rfl rfl rfl rfl (OpR.call rfl rfl rfl rfl (pK hT s (by omega) (by simp; omega))) ?_
  intro v2 h s
  refine zA rfl ?_
  refine aB.nil ⟨⟨aa,aa,aa,aa,aa,fun _ _=>.inr ⟨rfl,⟨_,lY rfl (pz _ _)⟩,bq _ rfl⟩,dW (.inr ⟨rfl,⟨_,bh rfl (s0.ld (k:=1) rfl dL rfl)⟩,bq _ rfl⟩) (.inr ⟨rfl,⟨_,bh rfl (s1.ld (k:=1) rfl dL rfl)⟩,bq _ rfl⟩),fun _ _=>.inr ⟨rfl,⟨_,cJ rfl (by exact iZ bD cE (fD (by omega) (by omega)))⟩,bq _ rfl⟩,aa,aa,aa⟩,?_⟩
  have W3:∀(h:H) (E:List (Nat×V)) (I:V),Sat h (aZ I (l++kC ⟨pg,ps,wh,bb⟩)::.arr 4 ch cs::dg cs aM::S)→Has E [(1,.ptr p1 0),(3,I),(37,ch),(38,.int .i64 aM.length),(39,.int .i64 ((i:Int)+1))]→WP ⟨Tryz.prog,told⟩ 63 (.loop ZV) E h Q:=by
   intro h E I s hE
   refine ih (i+1) I _ h E Q (by omega) (by rw [bx,Ky]; omega) s hE (fun E' h' sv2 rS s'=>hx E' h' sv2 rS ?_)
   rw [bS] at s'
   exact s'
  have hlp:=gM 9 pg
  have hlq:=gM 9 ps
  refine zK 7 rfl (zf rfl (wF _ _) ?_)
  have Nu:wh=false∨wh=true:=by cases wh <;> simp
  rcases Nu with hw | hw
  ·skip
   refine zh rfl (bh rfl (s.ld (k:=1) rfl kX rfl)) (hw) (zk 3 rfl ?_)
   have s0:=s
   have um:=dz (s.buf (k:=0) rfl).view
   refine WP.drawn [some (0,2),ai,ai,ai,some (0,3),some (0,3),none,none] rfl (by kernel_rfl) (by kernel_rfl) ?_
   refine zM rfl (zM rfl (aB.any rfl rfl rfl rfl (OpR.Mi (n:=0) rfl s rfl rfl rfl (by decide)) ?_))
   intro v3 h s
   have s:=s.ae [1,1,0]
   dsimp only [bringA,getA,aQ] at s
   have s1:=s
   refine aB.any rfl rfl rfl rfl (OpR.ru rfl (s.ae [0,1]) (bg _ _) rfl rfl rfl rfl (by simp; omega)) ?_
   intro v4 h s
   have s:=s.del 1
   dsimp only [aQ,bringA] at s
   have s2:=s
   refine zF rfl (m6 _ _) (zL rfl (s.ld (k:=1) rfl bJ rfl) (aB.any rfl rfl rfl rfl (OpR.call rfl rfl rfl rfl (ET hT (s.ae [0,1]) (dy _ _) (by simp; omega))) ?_))
   intro v5 h s
   dsimp only [aQ,bringA] at s
   refine zA rfl ?_
   refine aB.nil ⟨⟨fun _ _=>.inr ⟨rfl,⟨_,bz rfl⟩,um⟩,aa,aa,aa,fun _ _=>.inr ⟨rfl,⟨_,lY rfl (m6 _ _)⟩,bq _ rfl⟩,yW (.inr ⟨rfl,⟨_,bh rfl (s0.ld (k:=1) rfl bJ rfl)⟩,u3⟩) (.inr ⟨rfl,⟨_,bh rfl (s1.ld (k:=1) rfl bJ rfl)⟩,u3⟩) (.inr ⟨rfl,⟨_,bh rfl (s2.ld (k:=1) rfl bJ rfl)⟩,u3⟩),aa,aa,aa⟩,?_⟩
   refine zr rfl (zb rfl (by exact br (aC (by omega) (by omega))) ?_)
   refine zm rfl (zv ?_)
   refine W3 _ _ v5 ?_ ?_
   ·rw [Rc,hw]
    have s:=(s.del 1).del 1
    dsimp only [aQ] at s
    simpa [bS] using s
   ·exact ⟨rfl,rfl,rfl,rfl,rfl,aa⟩
  ·skip
   refine zt rfl (bh rfl (s.ld (k:=1) rfl kX rfl)) (hw) (zk 5 rfl ?_)
   have s0:=s
   have um:=dz (s.buf (k:=0) rfl).view
   refine WP.drawn [some (0,2),ai,ai,ai,some (0,3),some (0,3),none,none] rfl (by kernel_rfl) (by kernel_rfl) ?_
   refine zM rfl (zM rfl (aB.any rfl rfl rfl rfl (OpR.Mi (n:=1) rfl s rfl rfl rfl (by decide)) ?_))
   intro v3 h s
   have s:=s.ae [1,1,0]
   dsimp only [bringA,getA,aQ] at s
   have s1:=s
   refine aB.any rfl rfl rfl rfl (OpR.ru rfl (s.ae [0,1]) (bg _ _) rfl rfl rfl rfl (by simp; omega)) ?_
   intro v4 h s
   have s:=s.del 1
   dsimp only [aQ,bringA] at s
   have s2:=s
   refine zF rfl (m6 _ _) (zL rfl (s.ld (k:=1) rfl bJ rfl) (aB.any rfl rfl rfl rfl (OpR.call rfl rfl rfl rfl (ET hT (s.ae [0,1]) (dy _ _) (by simp; omega))) ?_))
   intro v5 h s
   dsimp only [aQ,bringA] at s
   refine zA rfl ?_
   refine aB.nil ⟨⟨fun _ _=>.inr ⟨rfl,⟨_,bz rfl⟩,um⟩,aa,aa,aa,fun _ _=>.inr ⟨rfl,⟨_,lY rfl (m6 _ _)⟩,bq _ rfl⟩,yW (.inr ⟨rfl,⟨_,bh rfl (s0.ld (k:=1) rfl bJ rfl)⟩,u3⟩) (.inr ⟨rfl,⟨_,bh rfl (s1.ld (k:=1) rfl bJ rfl)⟩,u3⟩) (.inr ⟨rfl,⟨_,bh rfl (s2.ld (k:=1) rfl bJ rfl)⟩,u3⟩),aa,aa,aa⟩,?_⟩
   refine zr rfl (zb rfl (by exact br (aC (by omega) (by omega))) ?_)
   refine zm rfl (zv ?_)
   refine W3 _ _ v5 ?_ ?_
   ·rw [Rc,hw]
    have s:=(s.del 1).del 1
    dsimp only [aQ] at s
    simpa [bS] using s
   ·exact ⟨rfl,rfl,rfl,rfl,rfl,aa⟩
theorem Re (J:W told){kd:Nat}{tx pv nx:Nat}{dt ch:V}{cs:List V}{data:List Nat}{aM:List cq}(s:Sat h (X::.arr 4 ch cs::dg cs aM::S))(hX:cT X (cU dt data))(hg:dD kd aM=true)(I:zR aM)
 (FI:tx<18446744073709551616)(Ty:pv<18446744073709551616)(KU:nx<18446744073709551616)(hlen:data.length+(aM.flatMap kC).length≤70368744177664):
  Call ⟨Tryz.prog,told⟩ 162 [.agg (gT kd tx pv nx dt ch)] h fun r h'=>Sat h' (aZ r (dK kd tx pv nx data aM)::X::.arr 4 ch cs::dg cs aM::S):=by
 have jT:=s.jb (j:=1) rfl
 have jr:=s.aE (k:=0) rfl hX
 have Ft:=dz jr
 have fN:=mP (kd:=kd) (tx:=tx) (pv:=pv) (nx:=nx) jr.cells.2 jT.2.1
 have hk:1≤kd∧kd≤9:=by simp [dD] at hg; omega
 have me:∀c∈aM,c.Ok:=by
  simp only [dD,aO,lQ,eL] at hg
  exact hg.2
 have hm:=I.1
 have h1:=gM 9 tx
 have h2:=gM 9 pv
 have h3:=gM 9 nx
 have h4:=gM 9 data.length
 have h5:=gM 9 aM.length
 refine Call.of_wp (J.free _ rfl) Tryz.func162 rfl rfl (zg rfl (aA.b5 s rfl rfl rfl (fe rfl fN) ?_))
 intro p1 h s
 dsimp only [V.cells] at s
 refine zk 4 rfl (zf rfl (uh _ _) (zl rfl (s.ld (k:=0) rfl dL rfl) (zo rfl (cJ rfl (by exact iZ bD Tryz.underlying5 (C1 (by omega) (by omega)))) ?_)))
 refine aA.any rfl rfl rfl (OpR.Mi (n:=kd) rfl s rfl rfl rfl (by omega)) ?_
 intro v3 h s
 refine zk 5 rfl (zf rfl (Ol _ _) (zl rfl (s.ld (k:=1) rfl lZ rfl) (zf rfl (Om _ _) (zl rfl (s.ld (k:=1) rfl lZ rfl) (zf rfl (On _ _) (zl rfl (s.ld (k:=1) rfl lZ rfl) (zo rfl (c_ rfl (by rw [YK]; rfl)) ?_)))))))
 refine zk 2 rfl (WP.block (WP.loop (zg rfl (zt rfl (af rfl rfl aT) (by decide) ?_))))
 refine zk 5 rfl (WP.block (zg rfl (zo rfl (yV rfl rfl (r:=.int .u64 (tx:Int)) (by simp only [indexV,HW,vy,oJ,lZ]; rfl)) ?_)))
 refine zk 5 rfl (zc rfl (pK J s (by omega) (by simp only [bx,aS,bT]; omega)) ?_)
 intro v3 h s
 refine za rfl (zv (zr rfl (zb rfl (by exact br (aC (by omega) (by omega))) ?_)))
 refine zm rfl (zv (WP.loop (zg rfl (zt rfl (af rfl rfl aT) (by decide) ?_))))
 refine zk 5 rfl (WP.block (zg rfl (zo rfl (yV rfl rfl (r:=.int .u64 (pv:Int)) (by simp only [indexV,HW,vy,oJ,lZ]; rfl)) ?_)))
 refine zk 5 rfl (zc rfl (pK J s (by omega) (by simp only [bx,aS,bT]; omega)) ?_)
 intro v3 h s
 refine za rfl (zv (zr rfl (zb rfl (by exact br (aC (by omega) (by omega))) ?_)))
 refine zm rfl (zv (WP.loop (zg rfl (zt rfl (af rfl rfl aT) (by decide) ?_))))
 refine zk 5 rfl (WP.block (zg rfl (zo rfl (yV rfl rfl (r:=.int .u64 (nx:Int)) (by simp only [indexV,HW,vy,oJ,lZ]; rfl)) ?_)))
 refine zk 5 rfl (zc rfl (pK J s (by omega) (by simp only [bx,aS,bT]; omega)) ?_)
 intro v3 h s
 refine za rfl (zv (zr rfl (zb rfl (by exact br (aC (by omega) (by omega))) ?_)))
 refine zm rfl (zv (WP.loop (zg rfl (zh rfl (af rfl rfl aT) (by decide) ?_))))
 refine zk 3 rfl (WP.exit (zw ?_))
 have s0:=s
 have yg:=dz (s.buf (k:=0) rfl).view
 refine WP.drawn [ai,ai,ai,ai,some (0,2),some (0,2),some (0,2),some (0,2),none,none] rfl (by kernel_rfl) (by kernel_rfl) ?_
 refine zM rfl (zF rfl (y9 _ _) (zL rfl (s.ld (k:=1) rfl bJ rfl) (aB.any rfl rfl rfl rfl (OpR.call rfl rfl rfl rfl (ET J (s.ae [0,1]) hX (by simp only [bx,aS,bT]; omega))) ?_)))
 intro v4 h s
 have s:=s.ae [0,1,0]
 have s1:=s
 refine zF rfl (mO _ _) (zL rfl (s.ld (k:=1) rfl ug rfl) (zO rfl (aU rfl rfl rfl (s.wN (j1:=3) (j2:=4) rfl rfl iO)) (aB.op rfl rfl rfl (by simp only [isEff,cE]) (cJ rfl (by exact iZ bD cE (fD (by omega) (by omega)))) ?_)))
 refine aB.any rfl rfl rfl rfl (OpR.call rfl rfl rfl rfl (pK J s (by omega) (by simp only [bx,aS,bT]; omega))) ?_
 intro v5 h s
 refine zA rfl ?_
 refine aB.nil ⟨⟨aa,aa,aa,aa,fun _ _=>.inr ⟨rfl,⟨_,lY rfl (mO _ _)⟩,bq _ rfl⟩,dW (.inr ⟨rfl,⟨_,bh rfl (s0.ld (k:=1) rfl ug rfl)⟩,jT.2.2⟩) (.inr ⟨rfl,⟨_,bh rfl (s1.ld (k:=1) rfl ug rfl)⟩,jT.2.2⟩),dW (.inr ⟨rfl,⟨_,aU rfl rfl rfl (s0.wN (j1:=3) (j2:=4) rfl rfl iO)⟩,bq _ rfl⟩) (.inr ⟨rfl,⟨_,aU rfl rfl rfl (s1.wN (j1:=3) (j2:=4) rfl rfl iO)⟩,bq _ rfl⟩),fun _ _=>.inr ⟨rfl,⟨_,cJ rfl (by exact iZ bD cE (fD (by omega) (by omega)))⟩,bq _ rfl⟩,aa,aa,aa⟩,?_⟩
 refine zK 3 rfl (zf rfl (mO _ _) (zl rfl (s.ld (k:=1) rfl ug rfl) (zo rfl (aU rfl rfl rfl (s.wN (j1:=3) (j2:=4) rfl rfl iO)) (zk 2 rfl (WP.block ?_)))))
 have s:=s.ae [0,2,2,1]
 refine OR J me I aM.length 0 v5 _ _ _ _ (by omega) (by rw [eu]; simp only [bx,aS,bT]; omega) s ⟨rfl,rfl,rfl,rfl,rfl,aa⟩ (fun E' h' W4 jd s' => ?_)
 refine WP.has (F:=[(3,W4)]) ⟨jd,aa⟩ (zK 5 rfl (WP.ret ⟨aa,_,rfl,?_⟩))
 have ZW:=(s'.ae [0,2,0,0]).del 4
 dsimp only [List.cons_append,List.nil_append,List.drop,aQ,bringA,getA] at ZW
 simpa [dK,bS] using ZW
end
def iq (aK:Nat)(b:List Nat): List Nat:=le 4 b.length++le 4 (sM aK b)++b
theorem oT (aK:Nat)(b:List Nat): (iq aK b).length=8+b.length:=by simp [iq,cy]; omega
theorem xF : ∃i,Tryz.prog.info? 3=some i∧i.size=1∧i.bytes=8 :=
 ⟨_,(show Tryz.prog.info? 3=some ((Tryz.prog.info? 3).getD default) by kernel_rfl),by kernel_rfl,by kernel_rfl⟩
section
variable {told:cQ} {h:H} {S:List au} {X:au} {k q p:Nat} {v w:V} {l m:List Nat} {μ:Lg} {δ:Dk}
theorem FJ (I:W told){n:Nat}(s:Sat h S)(J:getA S k=some X)(hX:cT X (cU v l))(hl:l.length≤4611686018427387904):
  Call ⟨Tryz.prog,told⟩ 163 [.int .u64 (n:Int),v] h fun r h'=>r=.int .u32 (sM n l:Nat)∧Sat h' S :=
 (OD I.Tv s.wf (s.aE J hX) hl).mono fun _ _ ⟨h1,h2⟩=>⟨h1,s.mD h2⟩
structure Dg (tx pv nx:Nat)(data:List Nat)(aM:List cq): Prop where
 fit:zR aM
 tx:tx<18446744073709551616
 pv:pv<18446744073709551616
 nx:nx<18446744073709551616
 len:data.length+(aM.flatMap kC).length≤70368744177664
theorem OS (J:W told){kd:Int}{tx pv nx aK:Nat}{dt ch:V}{cs:List V}{data:List Nat}{aM:List cq}(s:Sat h (X::.arr 4 ch cs::dg cs aM::S))(hX:cT X (cU dt data))(I:Dg tx pv nx data aM):
  Call ⟨Tryz.prog,told⟩ 116 [.agg (gT kd tx pv nx dt ch),.int .u64 (aK:Int)] h fun r h' =>
  (dD kd aM=false∧r=.bj [.bw,.int .i64 1]∧Sat h' (X::.arr 4 ch cs::dg cs aM::S)) ∨
  (dD kd aM=true∧1048576<(dK kd tx pv nx data aM).length∧r=.bj [.bw,.int .i64 2]∧Sat h' (X::.arr 4 ch cs::dg cs aM::S)) ∨
  (dD kd aM=true∧(dK kd tx pv nx data aM).length≤1048576∧∃u,r=.bj [u,.int .i64 0]∧Sat h' (aZ u (iq aK (dK kd tx pv nx data aM))::X::.arr 4 ch cs::dg cs aM::S)):=by
 have jT:=s.jb (j:=1) rfl
 have jr:=s.aE (k:=0) rfl hX
 have fN:=mP (kd:=kd) (tx:=tx) (pv:=pv) (nx:=nx) jr.cells.2 jT.2.1
 refine Call.of_wp (J.free _ rfl) Tryz.func116 rfl rfl (zg rfl (aA.b5 s rfl rfl rfl (fe rfl fN) ?_))
 intro p1 h s
 dsimp only [V.cells] at s
 refine zk 6 rfl (zl rfl (s.cA (k:=0) rfl nD gL) (zc rfl (HZ J (s.ae [2,2]) jr.cells.2 I.fit) ?_))
 rintro r h' ⟨rfl,s⟩
 cases hg:dD kd aM with
 | false =>
  exact zo rfl (eD rfl rfl) (zk 7 rfl (WP.ret ⟨aa,_,rfl,.inl ⟨rfl,rfl,(s.ae [3,0,0]).del 3⟩⟩))
 | true =>
  refine zo rfl (eD rfl rfl) (zk 5 rfl (zl rfl (s.cA (k:=2) rfl nD gL) ?_))
  have hk:∃n:Nat,kd=n:=⟨kd.toNat,by simp [dD] at hg; omega⟩
  obtain ⟨kd,rfl⟩:=hk
  refine zc rfl (Re J (s.ae [3,0,0]) hX hg I.fit I.tx I.pv I.nx I.len) ?_
  intro u h s
  dsimp only [bringA,getA,aQ] at s
  have sx:(dK kd tx pv nx data aM).length<9223372036854775808:=by
   have h1:=gM 9 tx
   have h2:=gM 9 pv
   have h3:=gM 9 nx
   have h4:=gM 9 data.length
   have h5:=gM 9 aM.length
   have h6:=I.len
   simp only [dK,bx,aS,bT]
   omega
  generalize Kt:dK kd tx pv nx data aM=bd at s sx ⊢
  refine zk 6 rfl (zo rfl (aU rfl rfl rfl (a_ aG (s.aE (k:=0) rfl (bg _ _)))) ?_)
  by_cases H6:1048576<bd.length
  ·skip
   refine zt rfl (af rfl rfl gv) (by simp; omega) ?_
   exact zk 7 rfl (WP.ret ⟨aa,_,rfl,.inr (.inl ⟨rfl,H6,rfl,(s.del 4).del 0⟩)⟩)
  ·skip
   refine zh rfl (af rfl rfl gv) (by simp; omega) ?_
   refine zk 6 rfl (zo rfl (aU rfl rfl rfl (a_ aG (s.aE (k:=0) rfl (bg _ _)))) (zb rfl (by exact br (aC (by omega) (by omega))) ?_))
   refine aA.any rfl rfl rfl (OpR.uq (c:=8+bd.length) rfl s rfl rfl rfl rfl (by omega)) ?_
   intro v h s
   refine zm rfl (zo rfl (aU rfl rfl rfl (a_ aG (s.aE (k:=1) rfl (bg _ _)))) (zo rfl (cJ rfl (by exact iZ bD cE (fD (by omega) (by omega)))) ?_))
   refine zc rfl (Df (z:=4) J s (by decide) (by simp)) ?_
   intro v h s
   have bF:=(s.buf (k:=1) rfl).1
   refine zk 7 rfl (zc rfl (FJ (n:=aK) J s (k:=1) rfl (bg _ _) (by omega)) ?_)
   rintro r h ⟨rfl,s⟩
   have ku:=HO (aK:=aK) bF
   refine zo rfl (cJ rfl (by exact iZ Tryz.underlying231 cE (fD (by omega) (by omega)))) ?_
   refine zc rfl (Df (z:=4) J s (by decide) (by simp [cy])) ?_
   intro v h s
   refine zk 6 rfl (aA.any rfl rfl rfl (OpR.ru rfl s (bg _ _) rfl rfl rfl rfl (by simp only [bx,cy,bT]; omega)) ?_)
   intro v h s
   refine zk 3 rfl (WP.ret ⟨aa,_,rfl,?_⟩)
   refine .inr (.inr ⟨rfl,by omega,v,rfl,?_⟩)
   have s:=(s.del 5).del 1
   dsimp only [aQ] at s
   simpa [iq,bS] using s
def Lg.app (μ:Lg)(b:List Nat): Lg:={ μ with b:=μ.b++b,cF:=μ.cF++[μ.b.length] }
theorem Mw (hT:W told){kd:Int}{tx pv nx:Nat}{dt ch:V}{cs:List V}{data:List Nat}{aM:List cq}(s:Sat h (b8 q p μ::aR p δ::X::.arr 4 ch cs::dg cs aM::S))(hX:cT X (cU dt data))(dZ:Dg tx pv nx data aM)
 (J:μ.Ok)(hf:δ.aP<4294967296)(hl:δ.log.length≤16777216)(hr:δ.room≤16777216):
  Call ⟨Tryz.prog,told⟩ 59 [.ptr q 0,.agg (gT kd tx pv nx dt ch)] h fun r h' =>
  (∃e:Int,r=.bj [.int .u64 0,.int .i64 e]∧((dD kd aM=false∧e=1)∨(dD kd aM=true∧1048576<(dK kd tx pv nx data aM).length∧e=2)∨(dD kd aM=true∧(dK kd tx pv nx data aM).length≤1048576∧δ.dead=true∧e=9) ∨
    (dD kd aM=true∧(dK kd tx pv nx data aM).length≤1048576∧δ.dead=false∧δ.room<δ.log.length+(iq (μ.base+μ.b.length) (dK kd tx pv nx data aM)).length∧e=7))∧Sat h' (b8 q p μ::aR p δ::X::.arr 4 ch cs::dg cs aM::S)) ∨
  (dD kd aM=true∧(dK kd tx pv nx data aM).length≤1048576∧δ.dead=false∧δ.log.length+(iq (μ.base+μ.b.length) (dK kd tx pv nx data aM)).length≤δ.room∧δ.aP=0∧r=.bj [.int .u64 0,.int .i64 9] ∧
   Sat h' (b8 q p μ::aR p { δ.die with tail:=iq (μ.base+μ.b.length) (dK kd tx pv nx data aM) }::X::.arr 4 ch cs::dg cs aM::S)) ∨
  (dD kd aM=true∧(dK kd tx pv nx data aM).length≤1048576∧δ.dead=false∧δ.log.length+(iq (μ.base+μ.b.length) (dK kd tx pv nx data aM)).length≤δ.room∧δ.aP≠0∧r=.bj [.int .u64 ((μ.base+μ.b.length:Nat):Int),.int .i64 0] ∧
   Sat h' (b8 q p (μ.app (iq (μ.base+μ.b.length) (dK kd tx pv nx data aM)))::aR p { δ.c8 with log:=δ.log++iq (μ.base+μ.b.length) (dK kd tx pv nx data aM) }::X::.arr 4 ch cs::dg cs aM::S)):=by
 have jT:=s.jb (j:=3) rfl
 have jr:=s.aE (k:=2) rfl hX
 have fN:=mP (kd:=kd) (tx:=tx) (pv:=pv) (nx:=nx) jr.cells.2 jT.2.1
 have Mu:=J.size
 refine Call.of_wp (hT.free _ rfl) Tryz.func59 rfl rfl (zg rfl (aA.b5 s rfl rfl rfl (fe rfl fN) ?_))
 intro p1 h s
 dsimp only [V.cells] at s
 have s:=s.ae [1,0]
 refine zk 6 rfl (zc rfl (A9 hT s J.size) ?_)
 rintro v h' ⟨rfl,rfl⟩
 refine zk 4 rfl (zl rfl (s.cA (k:=1) rfl nD gL) (zm rfl (zc rfl (OS (aK:=μ.base+μ.b.length) hT (s.ae [3,3,3]) hX dZ) ?_)))
 generalize hrc:iq (μ.base+μ.b.length) (dK kd tx pv nx data aM)=rc
 have FK:rc.length=8+(dK kd tx pv nx data aM).length:=by rw [←hrc,oT]
 rintro r h' (⟨hg,rfl,s⟩ | ⟨hg,H6,rfl,s⟩ | ⟨hg,Dh,u,rfl,s⟩)
 ·dsimp only [bringA,getA,aQ] at s
  exact zk 10 rfl (zt rfl (af rfl rfl aN) (rfl) (zk 8 rfl (WP.ret ⟨aa,_,rfl,.inl ⟨1,rfl,.inl ⟨hg,rfl⟩,(s.ae [3,4,0,0,0]).del 5⟩⟩)))
 ·dsimp only [bringA,getA,aQ] at s
  exact zk 10 rfl (zt rfl (af rfl rfl aN) (rfl) (zk 8 rfl (WP.ret ⟨aa,_,rfl,.inl ⟨2,rfl,.inr (.inl ⟨hg,H6,rfl⟩),(s.ae [3,4,0,0,0]).del 5⟩⟩)))
 ·dsimp only [bringA,getA,aQ] at s
  have bF:=(s.buf (k:=0) rfl).1
  obtain ⟨qw,_,cap,_,rfl,_⟩:=s.fI (by omega)
  obtain ⟨bv,sv,s⟩:=fL.1 (s.ae [4])
  refine zk 10 rfl (zh rfl (af rfl rfl aN) (rfl) (zk 8 rfl (zf rfl (KH _ _) (zl rfl (s.ld (k:=0) rfl qZ rfl) (zm rfl ?_)))))
  have s:=s.ae [8,3]
  refine zc rfl (Mp hT s (bg _ _) (by omega) hf (by omega) (by omega)) ?_
  rintro r h (⟨hd,rfl,s⟩ | ⟨hd,Tz,rfl,s⟩ | ⟨hd,I,h0,rfl,s⟩ | ⟨hd,I,h0,rfl,s⟩)
  ·refine aA.op rfl rfl rfl (eT rfl) ?_
   exact zk 4 rfl (zt rfl (af rfl rfl aN) (rfl) (zk 8 rfl (WP.ret ⟨aa,_,rfl,.inl ⟨9,rfl,.inr (.inr (.inl ⟨hg,Dh,hd,rfl⟩)),(fL.2 ⟨bv,sv,((s.ae [2,2,2,0,1,1,1]).del 8).del 7⟩)⟩⟩)))
  ·skip
   exact zk 5 rfl (zt rfl (af rfl rfl aN) (rfl) (zk 8 rfl (WP.ret ⟨aa,_,rfl,.inl ⟨7,rfl,.inr (.inr (.inr ⟨hg,Dh,hd,by omega,rfl⟩)),(fL.2 ⟨bv,sv,((s.ae [2,2,2,0,1,1,1]).del 8).del 7⟩)⟩⟩)))
  ·skip
   exact zk 5 rfl (zt rfl (af rfl rfl aN) (rfl) (zk 8 rfl (WP.ret ⟨aa,_,rfl,.inr (.inl ⟨hg,Dh,hd,I,h0,rfl,(fL.2 ⟨bv,sv,((s.ae [2,2,2,0,1,1,1]).del 8).del 7⟩)⟩)⟩)))
  ·skip
   have s:=s.ae [2,2,2,1,0,0,0,0]
   refine zk 5 rfl (zh rfl (af rfl rfl aN) (rfl) (zk 4 rfl ?_))
   have s0:=s
   have Ow:=dz (s.buf (k:=1) rfl).view
   have zT:=(s.jb (j:=2) rfl).2.2
   refine WP.drawn [some (0,3),some (0,2),some (0,2),some (0,2),some (0,2),ai,ai,ai,ai,ai,ai,ai,ai,ai,ai] rfl (by kernel_rfl) (by kernel_rfl) ?_
   refine zM rfl (zM rfl (zN rfl (zF rfl (nX _ _) (zL rfl (s.ld (k:=0) rfl y8 rfl) (zM rfl (zN rfl (zF rfl (eM _ _) (zL rfl (s.ld (k:=0) rfl bJ rfl) (zO rfl (aU rfl rfl rfl (a_ aG (s.aE (k:=1) rfl (bg _ _)))) ?_)))))))))
   obtain ⟨i1,kB,jF,wL⟩:=xF
   obtain ⟨iv,h1,e1,s1⟩:=l_ (P:=Tryz.prog) (k:=1) (x:=.int .i64 (μ.b.length:Int)) s eB C2 kW rfl (by decide) (by decide) rfl rfl
   dsimp only [V.cells] at s1
   refine aB.any rfl rfl rfl rfl (OpR.of (R:=fun v h'=>v=iv∧h'=h1) (om rfl e1) ⟨rfl,rfl⟩) ?_
   rintro v h' ⟨rfl,rfl⟩
   have Mt:=J.many
   obtain ⟨W4,h2,e2,s2⟩:=iK (s1.ae [3,0]) eB kB C2 jF (by omega) rfl (by decide) (by simp only [iD,aS,bT]; omega)
   refine aB.any rfl rfl rfl rfl (OpR.of (R:=fun v h'=>v=W4∧h'=h2) (mF rfl rfl e2) ⟨rfl,rfl⟩) ?_
   rintro v h' ⟨rfl,rfl⟩
   have hv:=s2.jb (j:=0) rfl
   refine zN rfl (zF rfl (nX _ _) (aB.i_ rfl rfl rfl (OpR.fO rfl rfl rfl (s2.ey (k:=2) rfl WJ rfl (by decide) hv.1 hv.2.1)) ?_))
   rintro v h ⟨rfl,s⟩
   refine aB.nil ⟨⟨fun _ _=>.inr ⟨rfl,⟨_,bz rfl⟩,bq _ rfl⟩,fun _ _=>.inr ⟨rfl,⟨_,bz rfl⟩,bq _ rfl⟩,fun _ _=>.inr ⟨rfl,⟨_,oK rfl⟩,bq _ rfl⟩,fun _ _=>.inr ⟨rfl,⟨_,lY rfl (nX _ _)⟩,bq _ rfl⟩,dW (.inr ⟨rfl,⟨_,bh rfl (s0.ld (k:=0) rfl y8 rfl)⟩,zT⟩) (.inr ⟨rfl,⟨_,bh rfl (s1.ld (k:=1) rfl y8 rfl)⟩,zT⟩),aa,aa,aa,aa,aa,aa,aa,aa,aa,aa,aa⟩,?_⟩
   refine zK 5 rfl (zf rfl (eM _ _) (zl rfl (s.ld (k:=2) rfl bJ rfl) (zm rfl (aA.any rfl rfl rfl (OpR.ru rfl (s.ae [3,3]) (bg _ _) rfl rfl rfl rfl (by have:=J.len; omega)) ?_))))
   intro bv' h s
   have hv:=(s.buf (k:=0) rfl).view.cells
   refine zn rfl (zf rfl (eM _ _) (zS rfl (s.ey (k:=4) rfl gR rfl (by decide) hv.1 hv.2) ?_))
   intro h s
   refine zk 7 rfl (WP.ret ⟨aa,_,rfl,?_⟩)
   refine .inr (.inr ⟨hg,Dh,hd,I,h0,rfl,fL.2 ⟨bv',v,?_⟩⟩)
   have s:=(((s.ae [4,0,1]).del 4).del 3).del 7
   have e:ej (μ.app rc).cF=ej μ.cF++[.int .i64 (μ.b.length:Int)]:=by simp [Lg.app,ej]
   rw [e]
   exact s
end
end Go.Proofs.YtefepnnfphdkpaaGreat.Am
