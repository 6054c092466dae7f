/- SpaceAll: a part of its proof; conditions: its statement's. -/
import Derived.Test.YtefepnnfphdkpaaGreatA20
set_option linter.defProp false
namespace Go.Proofs.YtefepnnfphdkpaaGreat.Am
open Go
def iM:=@Tryz.underlying46
def CE:=@Tryz.underlying244
structure cY where
 aS:Int
 pos:Int
 whole:Bool
 b:List Nat
def cY.Ok (c:cY): Prop:=0≤c.aS∧c.aS<65536∧0≤c.pos∧c.pos≤512∧(c.b.length:Int)≤512-c.pos∧(c.whole=true→c.pos=0∧c.b.length=512)
instance (c:cY):Decidable c.Ok:=by unfold cY.Ok; infer_instance
def dM (kind:Int)(bQ:List cY): Bool:=decide (1≤kind∧kind≤9)&&bQ.all fun c=>decide c.Ok
def mS (kd:Int)(tx pv nx:Nat)(I ch:V): List V:=[.int .i64 kd,.int .u64 (tx:Int),.int .u64 (pv:Int),.int .u64 (nx:Int),I,ch]
theorem uH {kd:Int}{tx pv nx:Nat}{I ch:V}(J:storable I=true)(hc:storable ch=true): (mS kd tx pv nx I ch).all storable=true:=by
 simp only [mS,iQ,kO,J,hc]
 rfl
def cZ : List V→List cY→au
 | [],[]=>.pu True
 | p::a::w::v::l,x::m=>.an (.an (.pu (p=.int .i64 x.aS∧a=.int .i64 x.pos∧w=.bool x.whole)) (.cr v x.b)) (cZ l m)
 | _,_=>.pu False
theorem a_.nX : ∀(m:List cY) (l:List V),a_ (cZ l m):=by
 intro m
 induction m with
 | nil=>intro l; rcases l with _ | ⟨a,_ | ⟨b,_ | ⟨c,_ | ⟨d,l⟩⟩⟩⟩ <;> exact a_.pu _
 | cons x m I=>intro l; rcases l with _ | ⟨a,_ | ⟨b,_ | ⟨c,_ | ⟨d,l⟩⟩⟩⟩ <;> first | exact a_.pu _ | exact a_.an (a_.an (a_.pu _) (a_.cr _ _)) (I l)
theorem nB {a b:PM}: ∀ {m:List cY} {l:List V},(cZ l m).p a b→l.length=m.length*4:=by
 intro m
 induction m with
 | nil=>intro l h; rcases l with _ | ⟨x,_ | ⟨y,_ | ⟨z,_ | ⟨d,l⟩⟩⟩⟩ <;> first | rfl | exact h.elim
 | cons x m I =>
  intro l h
  rcases l with _ | ⟨x,_ | ⟨y,_ | ⟨z,_ | ⟨d,l⟩⟩⟩⟩ <;> first | exact h.elim | skip
  have:=I h.2
  simp only [bf]
  omega
theorem wR {a b:PM}: ∀ {m m':List cY} {l I:List V},(cZ l m).p a b→(cZ I m').p a b→(cZ (l++I) (m++m')).p a b:=by
 intro m
 induction m with
 | nil=>intro m' l I h h'; rcases l with _ | ⟨x,_ | ⟨y,_ | ⟨z,_ | ⟨d,l⟩⟩⟩⟩ <;> first | exact h' | exact h.elim
 | cons x m J =>
  intro m' l I h h'
  rcases l with _ | ⟨x,_ | ⟨y,_ | ⟨z,_ | ⟨d,l⟩⟩⟩⟩ <;> first | exact h.elim | exact ⟨h.1,J h.2 h'⟩
theorem CF {a b:PM}: ∀ {m:List cY} {l:List V} {i:Nat} {c:cY},(cZ l m).p a b→m[i]?=some c→∃u,(l.drop (i*4)).take 4=[.int .i64 c.aS,.int .i64 c.pos,.bool c.whole,u]∧(au.cr u c.b).p a b:=by
 intro m
 induction m with
 | nil=>intro l i c h I; simp at I
 | cons x m J =>
  intro l i c h I
  rcases l with _ | ⟨p,_ | ⟨q,_ | ⟨w,_ | ⟨v,l⟩⟩⟩⟩ <;> first | exact h.elim | skip
  obtain ⟨⟨⟨h1,h2,h3⟩,h4⟩,h5⟩:=h
  cases i with
  | zero=>simp at I; subst I; exact ⟨v,by rw [h1,h2,h3]; rfl,h4⟩
  | succ i =>
   simp at I
   obtain ⟨u,e1,e2⟩:=J h5 I
   refine ⟨u,?_,e2⟩
   rw [←e1,show (i+1)*4=i*4+4 by omega]
   rfl
section
variable {told:cX} {h:H} {S:List au} {X:au} {k q p:Nat} {v:V} {l:List Nat}
theorem IE {ch:V}{cs:List V}{m:List cY}{i:Nat}{c:cY}(s:Sat h (.arr 4 ch cs::cZ cs m::S))(hc:m[i]?=some c):
  ∃id off u,indexAddrV Tryz.prog 46 ch (.int .i64 (i:Int))=some (.ptr id off)∧loadV Tryz.prog h 180 (.ptr id off)=some (.agg [.int .i64 c.aS,.int .i64 c.pos,.bool c.whole,u]) ∧
   u.cells=[u]∧storable u=true∧u.beq u=true∧Sat h (.cr u c.b::.arr 4 ch cs::cZ cs m::S):=by
 obtain ⟨a,b,q1,q2,q3⟩:=s.at (k:=1) rfl
 have L9:=(List.getElem?_eq_some_iff.1 hc).1
 have hl:=nB q3
 obtain ⟨u,e1,e2⟩:=CF q3 hc
 obtain ⟨id,off,g1,J⟩:=Pt (P:=Tryz.prog) (i:=i) s (j:=0) rfl (by omega) (by decide) iM vG
 have J:=J QB
 rw [e1] at J
 have s2:Sat h (cZ cs m::.arr 4 ch cs::S):=s.ae [1]
 have s3:=(s2.dup (a_.nX _ _)).gR (B:=.cr u c.b) fun a b h=>by
  obtain ⟨u',I,r_⟩:=CF h hc
  rw [e1] at I
  injection I with _ I
  injection I with _ I
  injection I with _ I
  injection I with I _
  subst I
  exact r_
 have hu:=(s3.aK (k:=0) rfl (d_ _ _))
 exact ⟨id,off,u,g1,J,hu.cells.1,hu.cells.2,kT hu,s3.ae [0,1,0]⟩
theorem E1 {ch:V}{cs:List V}{m:List cY}{j1 j2:Nat}{P:Program}{t e:TypeId}(s:Sat h S)(I:getA S j1=some (.arr 4 ch cs))(J:getA S j2=some (cZ cs m))(hu:P.underlying t=some (.slice e)): lenV P h t ch=some (.int .i64 m.length):=by
 obtain ⟨a,b,q1,q2,q3⟩:=s.at J
 exact s.gI I (nB q3) (by decide) hu
theorem Sat.uI {ch:V}{cs:List V}{m:List cY}{j1 j2:Nat}{P:Program}{t e:TypeId}(s:Sat h S)(I:getA S j1=some (.arr 4 ch cs))(J:getA S j2=some (cZ cs m))(hu:P.underlying t=some (.slice e)): lenV P h t ch=some (.int .i64 m.length):=E1 s I J hu
noncomputable def RL : Code:=fC [1,1,0,1,0,0] ((Tryz.f161.body).getD .skip)
theorem Gu {p1:Nat}{ch:V}{cs:List V}{m:List cY}: ∀(j i:Nat) (h:H) (E:List (Nat×V)) (Q:Ex→List (Nat×V)→H→Prop),i+j=m.length→m.length<4294967296→(∀c∈m,c.b.length<9223372036854775808) →
  (∀c∈m, -4294967296≤c.pos∧c.pos≤4294967296)→Sat h (.arr 4 ch cs::cZ cs m::S)→Has E [(1,.ptr p1 0),(14,ch),(15,.int .i64 m.length),(16,.int .i64 i)] →
  ((m.drop i).all (fun c=>decide c.Ok)=false→∀E' h',look E' 2=some (.bool false)→Sat h' (.arr 4 ch cs::cZ cs m::S)→Q .ret E' h') →
  ((m.drop i).all (fun c=>decide c.Ok)=true→∀E' h',Sat h' (.arr 4 ch cs::cZ cs m::S)→Q (.exit 0) E' h')→WP ⟨Tryz.prog,told⟩ 61 (.loop RL) E h Q:=by
 intro j
 induction j with
 | zero =>
  intro i h E Q hi hm hb J s hE hr hx
  refine WP.loop (WP.has hE (zg rfl (zh rfl (ag rfl rfl aO) (by simp; omega) ?_)))
  exact zk 3 rfl (WP.exit (hx (by rw [fY (by omega)]; rfl) _ _ s))
 | succ j ih =>
  intro i h E Q hi hm hb J s hE hr hx
  have hc:m[i]?=some (m[i]'(by omega)):=aN _
  generalize (m[i]'(by omega))=c at hc
  have IF:=aU hc
  have RM:=hb c IF
  have UC:=J c IF
  have oM:m.drop i=c::m.drop (i+1):=by
   have:=List.getElem?_eq_some_iff.1 hc
   obtain ⟨h1,rfl⟩:=this
   exact va h1
  rw [oM,iQ] at hr hx
  obtain ⟨id,off,u,e1,e2,u1,u2,u3,s⟩:=IE s hc
  refine WP.loop (WP.has hE (zg rfl (zt rfl (ag rfl rfl aO) (by simp; omega) ?_)))
  refine zk 5 rfl (WP.block (zg rfl (zo rfl (cI (r:=.ptr id off) rfl rfl e1) (zl rfl e2 ?_))))
  refine az.cx s rfl rfl rfl (cz qF) (fun p4 h s => ?_)
  dsimp only [V.cells,List.length_cons,List.length_nil,Nat.reduceAdd] at s
  refine zS rfl (s.ik (j:=0) rfl vG rfl (by simp only [iQ,kO,u2]; rfl)) ?_
  intro h s
  dsimp only [setA] at s
  refine zk 4 rfl (zf rfl (Ai _ _) (zl rfl (s.ld (k:=0) rfl eG rfl) ?_))
  refine zd rfl (ag rfl rfl aO) ?_ ?_
  ·intro qw
   have qw:c.aS<0:=by simp at qw; omega
   exact zk 30 rfl (WP.ret (hr (by rw [cU (fun q:c.Ok=>by have:=q.1; omega),e_]) _ _ rfl s.drop.drop))
  ·intro qw
   have qw:¬ (c.aS<0):=by simp at qw; omega
   refine zm rfl (zf rfl (Ai _ _) (zl rfl (s.ld (k:=0) rfl eG rfl) ?_))
   refine zd rfl (ag rfl rfl od) ?_ ?_
   ·intro CG
    have CG:65536≤c.aS:=by simp at CG; omega
    exact zk 26 rfl (WP.ret (hr (by rw [cU (fun q:c.Ok=>by have:=q.2.1; omega),e_]) _ _ rfl s.drop.drop))
   ·intro CG
    have CG:¬ (65536≤c.aS):=by simp at CG; omega
    refine zk 2 rfl (zf rfl (pJ _ _) (zl rfl (s.ld (k:=0) rfl eG rfl) ?_))
    refine zd rfl (ag rfl rfl aO) ?_ ?_
    ·intro gE
     have gE:c.pos<0:=by simp at gE; omega
     exact zk 21 rfl (WP.ret (hr (by rw [cU (fun q:c.Ok=>by have:=q.2.2.1; omega),e_]) _ _ rfl s.drop.drop))
    ·intro gE
     have gE:¬ (c.pos<0):=by simp at gE; omega
     refine zk 2 rfl (zf rfl (pJ _ _) (zl rfl (s.ld (k:=0) rfl eG rfl) ?_))
     refine zd rfl (ag rfl rfl gv) ?_ ?_
     ·intro IG
      have IG:512<c.pos:=by simp at IG; omega
      exact zk 16 rfl (WP.ret (hr (by rw [cU (fun q:c.Ok=>by have:=q.2.2.2.1; omega),e_]) _ _ rfl s.drop.drop))
     ·intro IG
      have IG:¬ (512<c.pos):=by simp at IG; omega
      refine zk 2 rfl (zf rfl (pK _ _) (zl rfl (s.ld (k:=0) rfl cy rfl) (zo rfl (aQ rfl rfl rfl (bw aM (s.aK (k:=1) rfl (d_ _ _)))) (zf rfl (pJ _ _) (zl rfl (s.ld (k:=0) rfl eG rfl) (zb rfl (by exact jC (aA (by omega) (by omega))) ?_))))))
      refine zd rfl (ag rfl rfl gv) ?_ ?_
      ·intro mj
       have mj:512-c.pos<(c.b.length:Int):=by simp at mj; omega
       exact zk 7 rfl (WP.ret (hr (by rw [cU (fun q:c.Ok=>by have:=q.2.2.2.2.1; omega),e_]) _ _ rfl s.drop.drop))
      ·intro mj
       have mj:¬ (512-c.pos<(c.b.length:Int)):=by simp at mj; omega
       refine zk 6 rfl (zf rfl (EO _ _) ?_)
       have oE:∀(h:H) (E:List (Nat×V)),c.Ok→Sat h (.arr 4 ch cs::cZ cs m::S)→Has E [(1,.ptr p1 0),(14,ch),(15,.int .i64 m.length),(16,.int .i64 ((i:Int)+1))]→WP ⟨Tryz.prog,told⟩ 61 (.loop RL) E h Q:=by
        intro h E wz s hE
        rw [cK wz,vl] at hr hx
        exact ih (i+1) h E Q (by omega) hm hb J s hE hr hx
       have Hi:c.whole=false∨c.whole=true:=by cases c.whole <;> simp
       rcases Hi with hw | hw
       ·skip
        refine zh rfl (bp rfl (by exact s.ld (k:=0) rfl mJ rfl)) (hw) ?_
        refine zk 11 rfl (zv (zj rfl (WP.skip (zr rfl (zb rfl (by exact aV (aA (by omega) (by omega))) ?_)))))
        refine zm rfl (zv ?_)
        refine oE _ _ ?_ ?_ ?_
        ·exact ⟨by omega,by omega,by omega,by omega,by omega,fun e=>by rw [hw] at e; cases e⟩
        ·exact s.drop.drop
        ·exact ⟨rfl,rfl,rfl,rfl,aa⟩
       ·skip
        refine zt rfl (bp rfl (s.ld (k:=0) rfl mJ rfl)) (hw) (zm rfl (zf rfl (pJ _ _) (zl rfl (s.ld (k:=0) rfl eG rfl) ?_)))
        refine zd rfl (ag rfl rfl aF) ?_ ?_
        ·intro hp
         have hp:c.pos≠0:=by simp at hp; omega
         exact zk 13 rfl (WP.ret (hr (by rw [cU (fun q:c.Ok=>hp (q.2.2.2.2.2 hw).1),e_]) _ _ rfl s.drop.drop))
        ·intro hp
         have hp:c.pos=0:=by simp at hp; omega
         refine zm rfl (zf rfl (pK _ _) (zl rfl (s.ld (k:=0) rfl cy rfl) (zo rfl (aQ rfl rfl rfl (bw aM (s.aK (k:=1) rfl (d_ _ _)))) ?_)))
         refine zd rfl (ag rfl rfl aF) ?_ ?_
         ·intro I
          have I:c.b.length≠512:=by simp at I; omega
          exact zk 8 rfl (WP.ret (hr (by rw [cU (fun q:c.Ok=>I (q.2.2.2.2.2 hw).2),e_]) _ _ rfl s.drop.drop))
         ·intro I
          have I:c.b.length=512:=by simp at I; omega
          refine zk 2 rfl (zv (zj rfl (WP.skip (zr rfl (zb rfl (by exact aV (aA (by omega) (by omega))) ?_)))))
          refine zm rfl (zv ?_)
          refine oE _ _ ?_ ?_ ?_
          ·exact ⟨by omega,by omega,by omega,by omega,by omega,fun _=>⟨hp,I⟩⟩
          ·exact s.drop.drop
          ·exact ⟨rfl,rfl,rfl,rfl,aa⟩
def yA (m:List cY): Prop:=m.length<4294967296∧(∀c∈m,c.b.length<4294967296)∧(∀c∈m, -4294967296≤c.pos∧c.pos≤4294967296)
theorem KG (hT:W told){kd:Int}{tx pv nx:Nat}{dt ch:V}{cs:List V}{m:List cY}(s:Sat h (.arr 4 ch cs::cZ cs m::S))(hd:storable dt=true)(hm:yA m):
  Call ⟨Tryz.prog,told⟩ 161 [.agg (mS kd tx pv nx dt ch)] h fun r h'=>r=.bool (dM kd m)∧Sat h' (.arr 4 ch cs::cZ cs m::S):=by
 have uJ:=s.ny (j:=0) rfl
 have ku:=uH (kd:=kd) (tx:=tx) (pv:=pv) (nx:=nx) hd uJ.2.1
 refine Call.of_wp (hT.free _ rfl) Tryz.func161 rfl rfl (zg rfl (az.cx s rfl rfl rfl (fB rfl ku) ?_))
 intro p1 h s
 refine zk 5 rfl (zf rfl (ur _ _) (zl rfl (s.ld (k:=0) rfl eG rfl) ?_))
 refine zd rfl (ag rfl rfl aO) ?_ ?_
 ·intro J
  have J:kd<1:=by simpa using J
  exact zk 11 rfl (WP.ret ⟨aa,_,rfl,by rw [dM,cU (by omega),e_],s.drop⟩)
 ·intro J
  have J:1≤kd:=by simpa using J
  refine zm rfl (zf rfl (ur _ _) (zl rfl (s.ld (k:=0) rfl eG rfl) ?_))
  refine zd rfl (ag rfl rfl gv) ?_ ?_
  ·intro I
   have I:9<kd:=by simpa using I
   exact zk 7 rfl (WP.ret ⟨aa,_,rfl,by rw [dM,cU (by omega),e_],s.drop⟩)
  ·intro I
   have I:kd≤9:=by simpa using I
   refine zk 7 rfl (zf rfl (qa _ _) (zl rfl (s.ld (k:=0) rfl Ad rfl) (zo rfl (aQ rfl rfl rfl (E1 s (j1:=1) (j2:=2) rfl rfl iM)) (zk 2 rfl (WP.block ?_)))))
   have hg:dM kd m=m.all (fun c=>decide c.Ok):=by rw [dM,cK ⟨J,I⟩,vl]
   refine Gu m.length 0 _ _ _ (by omega) hm.1 (fun c hc=>by have:=hm.2.1 c hc; omega) hm.2.2 s.drop ⟨rfl,rfl,rfl,rfl,aa⟩ (fun hf E' h' h2 s' => ?_) (fun hf E' h' s' => ?_)
   ·rw [hg]
    rw [ej] at hf
    rw [hf]
    exact ⟨aa,_,Ch h2,rfl,s'⟩
   ·rw [hg]
    rw [ej] at hf
    rw [hf]
    exact WP.has (F:=[]) aa (zK 4 rfl (WP.ret ⟨aa,_,rfl,rfl,s'⟩))
end
def kC (c:cY): List Nat:=digits 9 c.aS.toNat++digits 9 c.pos.toNat++[if c.whole then 1 else 0]++(digits 9 c.b.length++c.b)
def ei (kd:Int)(tx pv nx:Nat)(data:List Nat)(bQ:List cY): List Nat :=
 [kd.toNat]++digits 9 tx++digits 9 pv++digits 9 nx++(digits 9 data.length++data)++digits 9 bQ.length++bQ.flatMap kC
section
variable {told:cX} {h:H} {S:List au} {X:au} {k q p:Nat} {v w:V} {l m:List Nat}
theorem mo (I:W told){n:Nat}(s:Sat h (bg v l::S))(hn:n<18446744073709551616)(hl:l.length≤140737488355000):
  Call ⟨Tryz.prog,told⟩ 176 [v,.int .u64 (n:Int)] h fun r h'=>Sat h' (bg r (l++digits 9 n)::S) :=
 (A7 I.L_ (k:=9) s.wf (s.buf (k:=0) rfl) (by omega) (by omega) (by omega)).mono fun _ _ ⟨J,h2,h3⟩=>s.vz h2 J h3
theorem Ay (hT:W told)(s:Sat h (bg v l::X::S))(I:cN X (cQ w m))(hl:l.length+m.length≤140737488355000):
  Call ⟨Tryz.prog,told⟩ 177 [v,w] h fun r h'=>Sat h' (bg r (l++(digits 9 m.length++m))::X::S) :=
 (M3 hT.L_ (k:=9) s.wf (s.buf (k:=0) rfl) (s.aK (k:=1) rfl I) (s.Pu I) (by omega) (by omega) (by omega)).mono fun _ _ ⟨J,h2,h3⟩=>by
  rw [eZ] at J
  exact s.vz h2 J h3
noncomputable def RN : Code:=fC [1,1,1,1,0,1,0,0] ((Tryz.f162.body).getD .skip)
theorem II (hT:W told){p1:Nat}{ch:V}{cs:List V}{bQ:List cY}(wz:∀c∈bQ,c.Ok)(J:yA bQ): ∀(j i:Nat) (sv:V) (l:List Nat) (h:H) (E:List (Nat×V)) (Q:Ex→List (Nat×V)→H→Prop),i+j=bQ.length →
  l.length+((bQ.drop i).flatMap kC).length≤140737488355000 →
  Sat h (bg sv l::.arr 4 ch cs::cZ cs bQ::S)→Has E [(1,.ptr p1 0),(3,sv),(37,ch),(38,.int .i64 bQ.length),(39,.int .i64 i)] →
  (∀E' h' I,look E' 3=some I→Sat h' (bg I (l++(bQ.drop i).flatMap kC)::.arr 4 ch cs::cZ cs bQ::S)→Q (.exit 2) E' h')→WP ⟨Tryz.prog,told⟩ 63 (.loop RN) E h Q:=by
 intro j
 induction j with
 | zero =>
  intro i sv l h E Q hi hlen s hE hx
  have hm:=J.1
  refine WP.loop (WP.has hE (zg rfl (zh rfl (ag rfl rfl aO) (by simp; omega) ?_)))
  refine zk 3 rfl (WP.exit (hx _ _ sv rfl ?_))
  rw [fY (by omega)]
  simpa using s
 | succ j ih =>
  intro i sv l h E Q hi hlen s hE hx
  have hm:=J.1
  have hc:bQ[i]?=some (bQ[i]'(by omega)):=aN _
  generalize (bQ[i]'(by omega))=c at hc
  have IF:=aU hc
  have S8:=wz c IF
  have RM:=J.2.1 c IF
  have oM:bQ.drop i=c::bQ.drop (i+1):=by
   obtain ⟨h1,rfl⟩:=List.getElem?_eq_some_iff.1 hc
   exact va h1
  rw [oM,rA] at hlen hx
  obtain ⟨pg,ps,wh,bb⟩:=c
  obtain ⟨q1,q2,q3,q4,_⟩:=S8
  dsimp only at q1 q2 q3 q4 RM
  obtain ⟨pg,rfl⟩:∃n:Nat,pg=n:=⟨pg.toNat,by omega⟩
  obtain ⟨ps,rfl⟩:∃n:Nat,ps=n:=⟨ps.toNat,by omega⟩
  have KH:kC ⟨pg,ps,wh,bb⟩=digits 9 pg++digits 9 ps++[if wh then 1 else 0]++(digits 9 bb.length++bb):=by simp [kC]
  have LM:(kC ⟨pg,ps,wh,bb⟩).length=(digits 9 pg).length+(digits 9 ps).length+1+(digits 9 bb.length).length+bb.length:=by rw [KH]; simp; omega
  rw [bK,LM] at hlen
  obtain ⟨id,off,u,e1,e2,u1,u2,u3,s⟩:=IE (s.ae [1,1]) hc
  dsimp only at e2
  have s:=s.ae [3,0,0,0]
  dsimp only [bk,bringA,getA] at s
  refine WP.loop (WP.has hE (zg rfl (zt rfl (ag rfl rfl aO) (by simp; omega) ?_)))
  refine zk 5 rfl (WP.block (zg rfl (zo rfl (cI (r:=.ptr id off) rfl rfl e1) (zl rfl e2 ?_))))
  refine az.cx s rfl rfl rfl (cz qF) (fun p7 h s => ?_)
  dsimp only [V.cells,List.length_cons,List.length_nil,Nat.reduceAdd] at s
  refine zS rfl (s.ik (j:=0) rfl vG rfl (by simp only [iQ,kO,u2]; rfl)) ?_
  intro h s
  dsimp only [setA] at s
  refine zk 2 rfl ?_
  have s:=s.ae [1,0]
  dsimp only [bringA,getA,bk] at s
  have s0:=s
  refine WP.drawn [ak,ak,ak,ak,ak,some (0,2),some (0,2),some (0,2),none,none] rfl (by kernel_rfl) (by kernel_rfl) ?_
  refine zM rfl (zF rfl (Ai _ _) (zL rfl (s.ld (k:=1) rfl eG rfl) (aD.op rfl rfl rfl (by simp only [isEff,cS]) (cM rfl (by exact jf bG cS (fT (by omega) (by omega)))) ?_)))
  refine aD.any rfl rfl rfl rfl (OpR.call rfl rfl rfl rfl (mo hT s (by omega) (by omega))) ?_
  intro v1 h s
  have s1:=s
  refine zF rfl (pJ _ _) (zL rfl (s.ld (k:=1) rfl eG rfl) (aD.op rfl rfl rfl (by simp only [isEff,cS]) (cM rfl (by exact jf bG cS (fT (by omega) (by omega)))) ?_))
  refine aD.any rfl rfl rfl rfl (OpR.call rfl rfl rfl rfl (mo hT s (by omega) (by simp; omega))) ?_
  intro v2 h s
  refine zA rfl ?_
  refine aD.nil ⟨⟨aa,aa,aa,aa,aa,fun _ _=>.inr ⟨rfl,⟨_,nq rfl (pJ _ _)⟩,bP _ rfl⟩,fh (.inr ⟨rfl,⟨_,bp rfl (s0.ld (k:=1) rfl eG rfl)⟩,bP _ rfl⟩) (.inr ⟨rfl,⟨_,bp rfl (s1.ld (k:=1) rfl eG rfl)⟩,bP _ rfl⟩),fun _ _=>.inr ⟨rfl,⟨_,cM rfl (by exact jf bG cS (fT (by omega) (by omega)))⟩,bP _ rfl⟩,aa,aa,aa⟩,?_⟩
  have PD:∀(h:H) (E:List (Nat×V)) (I:V),Sat h (bg I (l++kC ⟨pg,ps,wh,bb⟩)::.arr 4 ch cs::cZ cs bQ::S)→Has E [(1,.ptr p1 0),(3,I),(37,ch),(38,.int .i64 bQ.length),(39,.int .i64 ((i:Int)+1))]→WP ⟨Tryz.prog,told⟩ 63 (.loop RN) E h Q:=by
   intro h E I s hE
   refine ih (i+1) I _ h E Q (by omega) (by rw [bK,LM]; omega) s hE (fun E' h' UD wg s'=>hx E' h' UD wg ?_)
   rw [eZ] at s'
   exact s'
  have Wu:=eR 9 pg
  have Wv:=eR 9 ps
  refine zK 7 rfl (zf rfl (EO _ _) ?_)
  have Hi:wh=false∨wh=true:=by cases wh <;> simp
  rcases Hi with hw | hw
  ·skip
   refine zh rfl (bp rfl (s.ld (k:=1) rfl mJ rfl)) (hw) (zk 3 rfl ?_)
   have s0:=s
   have tC:=kT (s.buf (k:=0) rfl).view
   refine WP.drawn [some (0,2),ak,ak,ak,some (0,3),some (0,3),none,none] rfl (by kernel_rfl) (by kernel_rfl) ?_
   refine zM rfl (zM rfl (aD.any rfl rfl rfl rfl (OpR.Gg (n:=0) rfl s rfl rfl rfl (by decide)) ?_))
   intro v3 h s
   have s:=s.ae [1,1,0]
   dsimp only [bringA,getA,bk] at s
   have s1:=s
   refine aD.any rfl rfl rfl rfl (OpR.qU rfl (s.ae [0,1]) (bz _ _) rfl rfl rfl rfl (by simp; omega)) ?_
   intro v4 h s
   have s:=s.del 1
   dsimp only [bk,bringA] at s
   have s2:=s
   refine zF rfl (pK _ _) (zL rfl (s.ld (k:=1) rfl cy rfl) (aD.any rfl rfl rfl rfl (OpR.call rfl rfl rfl rfl (Ay hT (s.ae [0,1]) (d_ _ _) (by simp; omega))) ?_))
   intro v5 h s
   dsimp only [bk,bringA] at s
   refine zA rfl ?_
   refine aD.nil ⟨⟨fun _ _=>.inr ⟨rfl,⟨_,bT rfl⟩,tC⟩,aa,aa,aa,fun _ _=>.inr ⟨rfl,⟨_,nq rfl (pK _ _)⟩,bP _ rfl⟩,Ca (.inr ⟨rfl,⟨_,bp rfl (s0.ld (k:=1) rfl cy rfl)⟩,u3⟩) (.inr ⟨rfl,⟨_,bp rfl (s1.ld (k:=1) rfl cy rfl)⟩,u3⟩) (.inr ⟨rfl,⟨_,bp rfl (s2.ld (k:=1) rfl cy rfl)⟩,u3⟩),aa,aa,aa⟩,?_⟩
   refine zr rfl (zb rfl (by exact aV (aA (by omega) (by omega))) ?_)
   refine zm rfl (zv ?_)
   refine PD _ _ v5 ?_ ?_
   ·rw [KH,hw]
    have s:=(s.del 1).del 1
    dsimp only [bk] at s
    simpa [eZ] using s
   ·exact ⟨rfl,rfl,rfl,rfl,rfl,aa⟩
  ·skip
   refine zt rfl (bp rfl (s.ld (k:=1) rfl mJ rfl)) (hw) (zk 5 rfl ?_)
   have s0:=s
   have tC:=kT (s.buf (k:=0) rfl).view
   refine WP.drawn [some (0,2),ak,ak,ak,some (0,3),some (0,3),none,none] rfl (by kernel_rfl) (by kernel_rfl) ?_
   refine zM rfl (zM rfl (aD.any rfl rfl rfl rfl (OpR.Gg (n:=1) rfl s rfl rfl rfl (by decide)) ?_))
   intro v3 h s
   have s:=s.ae [1,1,0]
   dsimp only [bringA,getA,bk] at s
   have s1:=s
   refine aD.any rfl rfl rfl rfl (OpR.qU rfl (s.ae [0,1]) (bz _ _) rfl rfl rfl rfl (by simp; omega)) ?_
   intro v4 h s
   have s:=s.del 1
   dsimp only [bk,bringA] at s
   have s2:=s
   refine zF rfl (pK _ _) (zL rfl (s.ld (k:=1) rfl cy rfl) (aD.any rfl rfl rfl rfl (OpR.call rfl rfl rfl rfl (Ay hT (s.ae [0,1]) (d_ _ _) (by simp; omega))) ?_))
   intro v5 h s
   dsimp only [bk,bringA] at s
   refine zA rfl ?_
   refine aD.nil ⟨⟨fun _ _=>.inr ⟨rfl,⟨_,bT rfl⟩,tC⟩,aa,aa,aa,fun _ _=>.inr ⟨rfl,⟨_,nq rfl (pK _ _)⟩,bP _ rfl⟩,Ca (.inr ⟨rfl,⟨_,bp rfl (s0.ld (k:=1) rfl cy rfl)⟩,u3⟩) (.inr ⟨rfl,⟨_,bp rfl (s1.ld (k:=1) rfl cy rfl)⟩,u3⟩) (.inr ⟨rfl,⟨_,bp rfl (s2.ld (k:=1) rfl cy rfl)⟩,u3⟩),aa,aa,aa⟩,?_⟩
   refine zr rfl (zb rfl (by exact aV (aA (by omega) (by omega))) ?_)
   refine zm rfl (zv ?_)
   refine PD _ _ v5 ?_ ?_
   ·rw [KH,hw]
    have s:=(s.del 1).del 1
    dsimp only [bk] at s
    simpa [eZ] using s
   ·exact ⟨rfl,rfl,rfl,rfl,rfl,aa⟩
theorem KI (J:W told){kd:Nat}{tx pv nx:Nat}{dt ch:V}{cs:List V}{data:List Nat}{bQ:List cY}(s:Sat h (X::.arr 4 ch cs::cZ cs bQ::S))(hX:cN X (cQ dt data))(hg:dM kd bQ=true)(I:yA bQ)
 (IJ:tx<18446744073709551616)(Mg:pv<18446744073709551616)(Mh:nx<18446744073709551616)(hlen:data.length+(bQ.flatMap kC).length≤70368744177664):
  Call ⟨Tryz.prog,told⟩ 162 [.agg (mS kd tx pv nx dt ch)] h fun r h'=>Sat h' (bg r (ei kd tx pv nx data bQ)::X::.arr 4 ch cs::cZ cs bQ::S):=by
 have uJ:=s.ny (j:=1) rfl
 have tE:=s.aK (k:=0) rfl hX
 have Pc:=kT tE
 have ku:=uH (kd:=kd) (tx:=tx) (pv:=pv) (nx:=nx) tE.cells.2 uJ.2.1
 have hk:1≤kd∧kd≤9:=by simp [dM] at hg; omega
 have wz:∀c∈bQ,c.Ok:=by
  simp only [dM,aG,m_,dR] at hg
  exact hg.2
 have hm:=I.1
 have h1:=eR 9 tx
 have h2:=eR 9 pv
 have h3:=eR 9 nx
 have h4:=eR 9 data.length
 have h5:=eR 9 bQ.length
 refine Call.of_wp (J.free _ rfl) Tryz.func162 rfl rfl (zg rfl (az.cx s rfl rfl rfl (fB rfl ku) ?_))
 intro p1 h s
 dsimp only [V.cells] at s
 refine zk 4 rfl (zf rfl (ur _ _) (zl rfl (s.ld (k:=0) rfl eG rfl) (zo rfl (cM rfl (by exact jf bG Tryz.underlying5 (yh (by omega) (by omega)))) ?_)))
 refine az.any rfl rfl rfl (OpR.Gg (n:=kd) rfl s rfl rfl rfl (by omega)) ?_
 intro v3 h s
 refine zk 5 rfl (zf rfl (Pk _ _) (zl rfl (s.ld (k:=1) rfl mK rfl) (zf rfl (Pm _ _) (zl rfl (s.ld (k:=1) rfl mK rfl) (zf rfl (Pn _ _) (zl rfl (s.ld (k:=1) rfl mK rfl) (zo rfl (cW rfl (by rw [QK]; rfl)) ?_)))))))
 refine zk 2 rfl (WP.block (WP.loop (zg rfl (zt rfl (ag rfl rfl aO) (by decide) ?_))))
 refine zk 5 rfl (WP.block (zg rfl (zo rfl (B8 rfl rfl (r:=.int .u64 (tx:Int)) (by simp only [indexV,CE,F7,oB,mK]; rfl)) ?_)))
 refine zk 5 rfl (zc rfl (mo J s (by omega) (by simp only [bK,bf,bR]; omega)) ?_)
 intro v3 h s
 refine za rfl (zv (zr rfl (zb rfl (by exact aV (aA (by omega) (by omega))) ?_)))
 refine zm rfl (zv (WP.loop (zg rfl (zt rfl (ag rfl rfl aO) (by decide) ?_))))
 refine zk 5 rfl (WP.block (zg rfl (zo rfl (B8 rfl rfl (r:=.int .u64 (pv:Int)) (by simp only [indexV,CE,F7,oB,mK]; rfl)) ?_)))
 refine zk 5 rfl (zc rfl (mo J s (by omega) (by simp only [bK,bf,bR]; omega)) ?_)
 intro v3 h s
 refine za rfl (zv (zr rfl (zb rfl (by exact aV (aA (by omega) (by omega))) ?_)))
 refine zm rfl (zv (WP.loop (zg rfl (zt rfl (ag rfl rfl aO) (by decide) ?_))))
 refine zk 5 rfl (WP.block (zg rfl (zo rfl (B8 rfl rfl (r:=.int .u64 (nx:Int)) (by simp only [indexV,CE,F7,oB,mK]; rfl)) ?_)))
 refine zk 5 rfl (zc rfl (mo J s (by omega) (by simp only [bK,bf,bR]; omega)) ?_)
 intro v3 h s
 refine za rfl (zv (zr rfl (zb rfl (by exact aV (aA (by omega) (by omega))) ?_)))
 refine zm rfl (zv (WP.loop (zg rfl (zh rfl (ag rfl rfl aO) (by decide) ?_))))
 refine zk 3 rfl (WP.exit (zw ?_))
 have s0:=s
 have xn:=kT (s.buf (k:=0) rfl).view
 refine WP.drawn [ak,ak,ak,ak,some (0,2),some (0,2),some (0,2),some (0,2),none,none] rfl (by kernel_rfl) (by kernel_rfl) ?_
 refine zM rfl (zF rfl (Po _ _) (zL rfl (s.ld (k:=1) rfl cy rfl) (aD.any rfl rfl rfl rfl (OpR.call rfl rfl rfl rfl (Ay J (s.ae [0,1]) hX (by simp only [bK,bf,bR]; omega))) ?_)))
 intro v4 h s
 have s:=s.ae [0,1,0]
 have s1:=s
 refine zF rfl (qa _ _) (zL rfl (s.ld (k:=1) rfl Ad rfl) (zO rfl (aQ rfl rfl rfl (s.uI (j1:=3) (j2:=4) rfl rfl iM)) (aD.op rfl rfl rfl (by simp only [isEff,cS]) (cM rfl (by exact jf bG cS (fT (by omega) (by omega)))) ?_)))
 refine aD.any rfl rfl rfl rfl (OpR.call rfl rfl rfl rfl (mo J s (by omega) (by simp only [bK,bf,bR]; omega))) ?_
 intro v5 h s
 refine zA rfl ?_
 refine aD.nil ⟨⟨aa,aa,aa,aa,fun _ _=>.inr ⟨rfl,⟨_,nq rfl (qa _ _)⟩,bP _ rfl⟩,fh (.inr ⟨rfl,⟨_,bp rfl (s0.ld (k:=1) rfl Ad rfl)⟩,uJ.2.2⟩) (.inr ⟨rfl,⟨_,bp rfl (s1.ld (k:=1) rfl Ad rfl)⟩,uJ.2.2⟩),fh (.inr ⟨rfl,⟨_,aQ rfl rfl rfl (s0.uI (j1:=3) (j2:=4) rfl rfl iM)⟩,bP _ rfl⟩) (.inr ⟨rfl,⟨_,aQ rfl rfl rfl (s1.uI (j1:=3) (j2:=4) rfl rfl iM)⟩,bP _ rfl⟩),fun _ _=>.inr ⟨rfl,⟨_,cM rfl (by exact jf bG cS (fT (by omega) (by omega)))⟩,bP _ rfl⟩,aa,aa,aa⟩,?_⟩
 refine zK 3 rfl (zf rfl (qa _ _) (zl rfl (s.ld (k:=1) rfl Ad rfl) (zo rfl (aQ rfl rfl rfl (s.uI (j1:=3) (j2:=4) rfl rfl iM)) (zk 2 rfl (WP.block ?_)))))
 have s:=s.ae [0,2,2,1]
 refine II J wz I bQ.length 0 v5 _ _ _ _ (by omega) (by rw [ej]; simp only [bK,bf,bR]; omega) s ⟨rfl,rfl,rfl,rfl,rfl,aa⟩ (fun E' h' PE kB s' => ?_)
 refine WP.has (F:=[(3,PE)]) ⟨kB,aa⟩ (zK 5 rfl (WP.ret ⟨aa,_,rfl,?_⟩))
 have RO:=(s'.ae [0,2,0,0]).del 4
 dsimp only [List.cons_append,List.nil_append,List.drop,bk,bringA,getA] at RO
 simpa [ei,eZ] using RO
end
def oh (aL:Nat)(b:List Nat): List Nat:=le 4 b.length++le 4 (yx aL b)++b
theorem sV (aL:Nat)(b:List Nat): (oh aL b).length=8+b.length:=by simp [oh,dw]; omega
theorem sW : ∃i,Tryz.prog.info? 3=some i∧i.size=1∧i.bytes=8 :=
 ⟨_,(show Tryz.prog.info? 3=some ((Tryz.prog.info? 3).getD default) by kernel_rfl),by kernel_rfl,by kernel_rfl⟩
section
variable {told:cX} {h:H} {S:List au} {X:au} {k q p:Nat} {v w:V} {l m:List Nat} {μ:Lg} {δ:Dk}
theorem IK (I:W told){n:Nat}(s:Sat h S)(J:getA S k=some X)(hX:cN X (cQ v l))(hl:l.length≤4611686018427387904):
  Call ⟨Tryz.prog,told⟩ 163 [.int .u64 (n:Int),v] h fun r h'=>r=.int .u32 (yx n l:Nat)∧Sat h' S :=
 (Ip I.L_ s.wf (s.aK J hX) hl).mono fun _ _ ⟨h1,h2⟩=>⟨h1,s.lp h2⟩
structure yB (tx pv nx:Nat)(data:List Nat)(bQ:List cY): Prop where
 fit:yA bQ
 tx:tx<18446744073709551616
 pv:pv<18446744073709551616
 nx:nx<18446744073709551616
 len:data.length+(bQ.flatMap kC).length≤70368744177664
theorem IL (J:W told){kd:Int}{tx pv nx aL:Nat}{dt ch:V}{cs:List V}{data:List Nat}{bQ:List cY}(s:Sat h (X::.arr 4 ch cs::cZ cs bQ::S))(hX:cN X (cQ dt data))(I:yB tx pv nx data bQ):
  Call ⟨Tryz.prog,told⟩ 116 [.agg (mS kd tx pv nx dt ch),.int .u64 (aL:Int)] h fun r h' =>
  (dM kd bQ=false∧r=.aX [.bq,.int .i64 1]∧Sat h' (X::.arr 4 ch cs::cZ cs bQ::S)) ∨
  (dM kd bQ=true∧1048576<(ei kd tx pv nx data bQ).length∧r=.aX [.bq,.int .i64 2]∧Sat h' (X::.arr 4 ch cs::cZ cs bQ::S)) ∨
  (dM kd bQ=true∧(ei kd tx pv nx data bQ).length≤1048576∧∃u,r=.aX [u,.int .i64 0]∧Sat h' (bg u (oh aL (ei kd tx pv nx data bQ))::X::.arr 4 ch cs::cZ cs bQ::S)):=by
 have uJ:=s.ny (j:=1) rfl
 have tE:=s.aK (k:=0) rfl hX
 have ku:=uH (kd:=kd) (tx:=tx) (pv:=pv) (nx:=nx) tE.cells.2 uJ.2.1
 refine Call.of_wp (J.free _ rfl) Tryz.func116 rfl rfl (zg rfl (az.cx s rfl rfl rfl (fB rfl ku) ?_))
 intro p1 h s
 dsimp only [V.cells] at s
 refine zk 6 rfl (zl rfl (s.cG (k:=0) rfl Ae sO) (zc rfl (KG J (s.ae [2,2]) tE.cells.2 I.fit) ?_))
 rintro r h' ⟨rfl,s⟩
 cases hg:dM kd bQ with
 | false =>
  exact zo rfl (eP rfl rfl) (zk 7 rfl (WP.ret ⟨aa,_,rfl,.inl ⟨rfl,rfl,(s.ae [3,0,0]).del 3⟩⟩))
 | true =>
  refine zo rfl (eP rfl rfl) (zk 5 rfl (zl rfl (s.cG (k:=2) rfl Ae sO) ?_))
  have hk:∃n:Nat,kd=n:=⟨kd.toNat,by simp [dM] at hg; omega⟩
  obtain ⟨kd,rfl⟩:=hk
  refine zc rfl (KI J (s.ae [3,0,0]) hX hg I.fit I.tx I.pv I.nx I.len) ?_
  intro u h s
  dsimp only [bringA,getA,bk] at s
  have BR:(ei kd tx pv nx data bQ).length<9223372036854775808:=by
   have h1:=eR 9 tx
   have h2:=eR 9 pv
   have h3:=eR 9 nx
   have h4:=eR 9 data.length
   have h5:=eR 9 bQ.length
   have h6:=I.len
   simp only [ei,bK,bf,bR]
   omega
  generalize Eo:ei kd tx pv nx data bQ=bd at s BR ⊢
  refine zk 6 rfl (zo rfl (aQ rfl rfl rfl (bw aM (s.aK (k:=0) rfl (bz _ _)))) ?_)
  by_cases Gv:1048576<bd.length
  ·skip
   refine zt rfl (ag rfl rfl gv) (by simp; omega) ?_
   exact zk 7 rfl (WP.ret ⟨aa,_,rfl,.inr (.inl ⟨rfl,Gv,rfl,(s.del 4).del 0⟩)⟩)
  ·skip
   refine zh rfl (ag rfl rfl gv) (by simp; omega) ?_
   refine zk 6 rfl (zo rfl (aQ rfl rfl rfl (bw aM (s.aK (k:=0) rfl (bz _ _)))) (zb rfl (by exact aV (aA (by omega) (by omega))) ?_))
   refine az.any rfl rfl rfl (OpR.rZ (c:=8+bd.length) rfl s rfl rfl rfl rfl (by omega)) ?_
   intro v h s
   refine zm rfl (zo rfl (aQ rfl rfl rfl (bw aM (s.aK (k:=1) rfl (bz _ _)))) (zo rfl (cM rfl (by exact jf bG cS (fT (by omega) (by omega)))) ?_))
   refine zc rfl (CC (z:=4) J s (by decide) (by simp)) ?_
   intro v h s
   have br:=(s.buf (k:=1) rfl).1
   refine zk 7 rfl (zc rfl (IK (n:=aL) J s (k:=1) rfl (bz _ _) (by omega)) ?_)
   rintro r h ⟨rfl,s⟩
   have j9:=KA (aL:=aL) br
   refine zo rfl (cM rfl (by exact jf Tryz.underlying231 cS (fT (by omega) (by omega)))) ?_
   refine zc rfl (CC (z:=4) J s (by decide) (by simp [dw])) ?_
   intro v h s
   refine zk 6 rfl (az.any rfl rfl rfl (OpR.qU rfl s (bz _ _) rfl rfl rfl rfl (by simp only [bK,dw,bR]; omega)) ?_)
   intro v h s
   refine zk 3 rfl (WP.ret ⟨aa,_,rfl,?_⟩)
   refine .inr (.inr ⟨rfl,by omega,v,rfl,?_⟩)
   have s:=(s.del 5).del 1
   dsimp only [bk] at s
   simpa [oh,eZ] using s
def Lg.app (μ:Lg)(b:List Nat): Lg:={ μ with b:=μ.b++b,b9:=μ.b9++[μ.b.length] }
theorem Gw (hT:W told){kd:Int}{tx pv nx:Nat}{dt ch:V}{cs:List V}{data:List Nat}{bQ:List cY}(s:Sat h (bU q p μ::bj p δ::X::.arr 4 ch cs::cZ cs bQ::S))(hX:cN X (cQ dt data))(eU:yB tx pv nx data bQ)
 (J:μ.Ok)(hf:δ.bJ<4294967296)(hl:δ.log.length≤16777216)(hr:δ.room≤16777216):
  Call ⟨Tryz.prog,told⟩ 59 [.ptr q 0,.agg (mS kd tx pv nx dt ch)] h fun r h' =>
  (∃e:Int,r=.aX [.int .u64 0,.int .i64 e]∧((dM kd bQ=false∧e=1)∨(dM kd bQ=true∧1048576<(ei kd tx pv nx data bQ).length∧e=2)∨(dM kd bQ=true∧(ei kd tx pv nx data bQ).length≤1048576∧δ.dead=true∧e=9) ∨
    (dM kd bQ=true∧(ei kd tx pv nx data bQ).length≤1048576∧δ.dead=false∧δ.room<δ.log.length+(oh (μ.base+μ.b.length) (ei kd tx pv nx data bQ)).length∧e=7))∧Sat h' (bU q p μ::bj p δ::X::.arr 4 ch cs::cZ cs bQ::S)) ∨
  (dM kd bQ=true∧(ei kd tx pv nx data bQ).length≤1048576∧δ.dead=false∧δ.log.length+(oh (μ.base+μ.b.length) (ei kd tx pv nx data bQ)).length≤δ.room∧δ.bJ=0∧r=.aX [.int .u64 0,.int .i64 9] ∧
   Sat h' (bU q p μ::bj p { δ.die with tail:=oh (μ.base+μ.b.length) (ei kd tx pv nx data bQ) }::X::.arr 4 ch cs::cZ cs bQ::S)) ∨
  (dM kd bQ=true∧(ei kd tx pv nx data bQ).length≤1048576∧δ.dead=false∧δ.log.length+(oh (μ.base+μ.b.length) (ei kd tx pv nx data bQ)).length≤δ.room∧δ.bJ≠0∧r=.aX [.int .u64 ((μ.base+μ.b.length:Nat):Int),.int .i64 0] ∧
   Sat h' (bU q p (μ.app (oh (μ.base+μ.b.length) (ei kd tx pv nx data bQ)))::bj p { δ.gi with log:=δ.log++oh (μ.base+μ.b.length) (ei kd tx pv nx data bQ) }::X::.arr 4 ch cs::cZ cs bQ::S)):=by
 have uJ:=s.ny (j:=3) rfl
 have tE:=s.aK (k:=2) rfl hX
 have ku:=uH (kd:=kd) (tx:=tx) (pv:=pv) (nx:=nx) tE.cells.2 uJ.2.1
 have Gt:=J.size
 refine Call.of_wp (hT.free _ rfl) Tryz.func59 rfl rfl (zg rfl (az.cx s rfl rfl rfl (fB rfl ku) ?_))
 intro p1 h s
 dsimp only [V.cells] at s
 have s:=s.ae [1,0]
 refine zk 6 rfl (zc rfl (Aw hT s J.size) ?_)
 rintro v h' ⟨rfl,rfl⟩
 refine zk 4 rfl (zl rfl (s.cG (k:=1) rfl Ae sO) (zm rfl (zc rfl (IL (aL:=μ.base+μ.b.length) hT (s.ae [3,3,3]) hX eU) ?_)))
 generalize UE:oh (μ.base+μ.b.length) (ei kd tx pv nx data bQ)=rc
 have Ww:rc.length=8+(ei kd tx pv nx data bQ).length:=by rw [←UE,sV]
 rintro r h' (⟨hg,rfl,s⟩ | ⟨hg,Gv,rfl,s⟩ | ⟨hg,yC,u,rfl,s⟩)
 ·dsimp only [bringA,getA,bk] at s
  exact zk 10 rfl (zt rfl (ag rfl rfl aF) (rfl) (zk 8 rfl (WP.ret ⟨aa,_,rfl,.inl ⟨1,rfl,.inl ⟨hg,rfl⟩,(s.ae [3,4,0,0,0]).del 5⟩⟩)))
 ·dsimp only [bringA,getA,bk] at s
  exact zk 10 rfl (zt rfl (ag rfl rfl aF) (rfl) (zk 8 rfl (WP.ret ⟨aa,_,rfl,.inl ⟨2,rfl,.inr (.inl ⟨hg,Gv,rfl⟩),(s.ae [3,4,0,0,0]).del 5⟩⟩)))
 ·dsimp only [bringA,getA,bk] at s
  have br:=(s.buf (k:=0) rfl).1
  obtain ⟨qd,_,cap,_,rfl,_⟩:=s.eo (by omega)
  obtain ⟨bv,sv,s⟩:=fF.1 (s.ae [4])
  refine zk 10 rfl (zh rfl (ag rfl rfl aF) (rfl) (zk 8 rfl (zf rfl (EN _ _) (zl rfl (s.ld (k:=0) rfl qS rfl) (zm rfl ?_)))))
  have s:=s.ae [8,3]
  refine zc rfl (Gn hT s (bz _ _) (by omega) hf (by omega) (by omega)) ?_
  rintro r h (⟨hd,rfl,s⟩ | ⟨hd,Mi,rfl,s⟩ | ⟨hd,I,h0,rfl,s⟩ | ⟨hd,I,h0,rfl,s⟩)
  ·refine az.op rfl rfl rfl (eW rfl) ?_
   exact zk 4 rfl (zt rfl (ag rfl rfl aF) (rfl) (zk 8 rfl (WP.ret ⟨aa,_,rfl,.inl ⟨9,rfl,.inr (.inr (.inl ⟨hg,yC,hd,rfl⟩)),(fF.2 ⟨bv,sv,((s.ae [2,2,2,0,1,1,1]).del 8).del 7⟩)⟩⟩)))
  ·skip
   exact zk 5 rfl (zt rfl (ag rfl rfl aF) (rfl) (zk 8 rfl (WP.ret ⟨aa,_,rfl,.inl ⟨7,rfl,.inr (.inr (.inr ⟨hg,yC,hd,by omega,rfl⟩)),(fF.2 ⟨bv,sv,((s.ae [2,2,2,0,1,1,1]).del 8).del 7⟩)⟩⟩)))
  ·skip
   exact zk 5 rfl (zt rfl (ag rfl rfl aF) (rfl) (zk 8 rfl (WP.ret ⟨aa,_,rfl,.inr (.inl ⟨hg,yC,hd,I,h0,rfl,(fF.2 ⟨bv,sv,((s.ae [2,2,2,0,1,1,1]).del 8).del 7⟩)⟩)⟩)))
  ·skip
   have s:=s.ae [2,2,2,1,0,0,0,0]
   refine zk 5 rfl (zh rfl (ag rfl rfl aF) (rfl) (zk 4 rfl ?_))
   have s0:=s
   have Pv:=kT (s.buf (k:=1) rfl).view
   have RP:=(s.ny (j:=2) rfl).2.2
   refine WP.drawn [some (0,3),some (0,2),some (0,2),some (0,2),some (0,2),ak,ak,ak,ak,ak,ak,ak,ak,ak,ak] rfl (by kernel_rfl) (by kernel_rfl) ?_
   refine zM rfl (zM rfl (zN rfl (zF rfl (nt _ _) (zL rfl (s.ld (k:=0) rfl wN rfl) (zM rfl (zN rfl (zF rfl (jE _ _) (zL rfl (s.ld (k:=0) rfl cy rfl) (zO rfl (aQ rfl rfl rfl (bw aM (s.aK (k:=1) rfl (bz _ _)))) ?_)))))))))
   obtain ⟨i1,jI,iq,r9⟩:=sW
   obtain ⟨iv,h1,e1,s1⟩:=kU (P:=Tryz.prog) (k:=1) (x:=.int .i64 (μ.b.length:Int)) s cB AY lD rfl (by decide) (by decide) rfl rfl
   dsimp only [V.cells] at s1
   refine aD.any rfl rfl rfl rfl (OpR.of (R:=fun v h'=>v=iv∧h'=h1) (lP rfl e1) ⟨rfl,rfl⟩) ?_
   rintro v h' ⟨rfl,rfl⟩
   have Mf:=J.many
   obtain ⟨PE,h2,e2,s2⟩:=ie (s1.ae [3,0]) cB jI AY iq (by omega) rfl (by decide) (by simp only [dD,bf,bR]; omega)
   refine aD.any rfl rfl rfl rfl (OpR.of (R:=fun v h'=>v=PE∧h'=h2) (kS rfl rfl e2) ⟨rfl,rfl⟩) ?_
   rintro v h' ⟨rfl,rfl⟩
   have hv:=s2.ny (j:=0) rfl
   refine zN rfl (zF rfl (nt _ _) (aD.lQ rfl rfl rfl (OpR.AX rfl rfl rfl (s2.je (k:=2) rfl SQ rfl (by decide) hv.1 hv.2.1)) ?_))
   rintro v h ⟨rfl,s⟩
   refine aD.nil ⟨⟨fun _ _=>.inr ⟨rfl,⟨_,bT rfl⟩,bP _ rfl⟩,fun _ _=>.inr ⟨rfl,⟨_,bT rfl⟩,bP _ rfl⟩,fun _ _=>.inr ⟨rfl,⟨_,sM rfl⟩,bP _ rfl⟩,fun _ _=>.inr ⟨rfl,⟨_,nq rfl (nt _ _)⟩,bP _ rfl⟩,fh (.inr ⟨rfl,⟨_,bp rfl (s0.ld (k:=0) rfl wN rfl)⟩,RP⟩) (.inr ⟨rfl,⟨_,bp rfl (s1.ld (k:=1) rfl wN rfl)⟩,RP⟩),aa,aa,aa,aa,aa,aa,aa,aa,aa,aa,aa⟩,?_⟩
   refine zK 5 rfl (zf rfl (jE _ _) (zl rfl (s.ld (k:=2) rfl cy rfl) (zm rfl (az.any rfl rfl rfl (OpR.qU rfl (s.ae [3,3]) (bz _ _) rfl rfl rfl rfl (by have:=J.len; omega)) ?_))))
   intro UF h s
   have hv:=(s.buf (k:=0) rfl).view.cells
   refine zn rfl (zf rfl (jE _ _) (zS rfl (s.je (k:=4) rfl kz rfl (by decide) hv.1 hv.2) ?_))
   intro h s
   refine zk 7 rfl (WP.ret ⟨aa,_,rfl,?_⟩)
   refine .inr (.inr ⟨hg,yC,hd,I,h0,rfl,fF.2 ⟨UF,v,?_⟩⟩)
   have s:=(((s.ae [4,0,1]).del 4).del 3).del 7
   have e:cD (μ.app rc).b9=cD μ.b9++[.int .i64 (μ.b.length:Int)]:=by simp [Lg.app,cD]
   rw [e]
   exact s
end
end Go.Proofs.YtefepnnfphdkpaaGreat.Am
