/- AtomCuts: a part of its proof; conditions: its statement's. -/
import Derived.Test.YtconhghphklfjaaGreatC24
set_option linter.defProp false
namespace Go.Proofs.YtconhghphklfjaaGreat.Am
open Go
def uL:=@Tryz.underlying27
def HF:=@Tryz.func76
def nZ : V→Bool
 | .agg [_,.bool b]=>b
 | _=>true
def lC (seen:List Nat)(e:Int×V×Nat): Bool := !inL seen e.2.2||nZ e.2.1
theorem LS {seen:List Nat}: ∀ {l:bZ},leftV seen ((l.filter (lC seen)).map ep)=leftV seen (l.map ep):=by
 intro l
 induction l with
 | nil=>rfl
 | cons e l I =>
  have hm:(ep e).2.2=e.2.2:=rfl
  rw [tD]
  by_cases hs:inL seen e.2.2=true
  ·by_cases J:lC seen e=true
   ·rw [aj J]
    simp only [bJ,leftV,hm,hs,ag]
    exact I
   ·rw [af J]
    simp only [bJ,leftV,hm,hs,ag]
    exact I
  ·have hs:inL seen e.2.2=false:=by simpa using hs
   rw [aj (by simp [lC,hs])]
   simp only [bJ,leftV,hm,hs,az]
   rw [I]
theorem LU {seen:List Nat}{b:Nat}: ∀ {l:bZ},(∀e∈l,e.2.2≠b)→leftV (seen++[b]) (l.map ep)=leftV seen (l.map ep):=by
 intro l
 induction l with
 | nil=>intro _; rfl
 | cons e l J =>
  intro h
  have hm:(ep e).2.2=e.2.2:=rfl
  simp only [bJ,leftV,hm,mg,cS (ji (h e bn)),qU]
  rw [J fun U I=>h U (bl _ I)]
theorem LV {seen:List Nat}{c:Nat}: ∀ {l:bZ} {b:Nat} {e:Int×V×Nat},eX c b l→e∈l→inL seen e.2.2=false→(leftV (seen++[e.2.2]) (l.map ep)).length+1=(leftV seen (l.map ep)).length:=by
 intro l
 induction l with
 | nil=>intro b e _ he; cases he
 | cons y l U =>
  intro b e I he hs
  have hm:(ep y).2.2=y.2.2:=rfl
  rcases List.mem_cons.1 he with rfl | he
  ·simp only [bJ,leftV,hm,mg,hs,dh,Bool.or_true,ag,az,bj]
   rw [LU fun e' J=>by have:=oQ I.2.2 e' J; omega]
  ·have:=oQ I.2.2 e he
   have:=U I.2.2 he hs
   simp only [bJ,leftV,hm,mg,cS (show e.2.2≠y.2.2 by omega),qU]
   cases inL seen y.2.2
   ·simp only [az,bj]; omega
   ·simp only [ag]; omega
theorem QE {seen:List Nat}: ∀ {l:bZ},(∀e∈l,inL seen e.2.2=true)→l.filter (lC seen)=l.filter (fun e=>nZ e.2.1):=by
 intro l h
 refine DP fun e he => ?_
 simp only [lC,h e he,Aj,tL]
theorem QF {l:bZ}: l.filter (lC [])=l:=List.filter_eq_self.2 fun e _=>rfl
theorem QG {seen:List Nat}{l:bZ}{e:Int×V×Nat}{c b:Nat}(U:eX c b l)(he:e∈l)(hf:nZ e.2.1=true): l.filter (lC (seen++[e.2.2]))=l.filter (lC seen):=by
 refine DP fun e' J => ?_
 simp only [lC,mg]
 by_cases h:e.2.2=e'.2.2
 ·have I:=qx U he
  have h2:=qx U J
  rw [h,h2] at I
  have h3:e'.2.1=e.2.1:=by injection I with I; injection I with _ I; rw [I]
  rw [h3,hf]; simp
 ·rw [cS h,qU]
theorem TP {n:Int}: ∀ {l:bZ},(l.map (·.1)).Nodup→mG n l=l.filter (fun e=>decide (e.1≠n)):=by
 intro l
 induction l with
 | nil=>intro _; rfl
 | cons e l J =>
  intro h
  simp only [bJ,lW] at h
  simp only [mG,tD]
  by_cases he:e.1=n
  ·rw [aj he,af (by simp [he])]
   symm
   refine List.filter_eq_self.2 fun e' I => ?_
   simp only [jP,ej]
   intro U
   exact h.1 (by rw [he,←U]; exact jd (f:=(·.1)) I)
  ·rw [af he,aj (by simp [he]),J h.2]
theorem TQ {seen:List Nat}{l:bZ}{e:Int×V×Nat}{c b:Nat}(hb:eX c b l)(hn:(l.map (·.1)).Nodup)(he:e∈l)(hf:nZ e.2.1=false)(hs:inL seen e.2.2=false):
  l.filter (lC (seen++[e.2.2]))=mG e.1 (l.filter (lC seen)):=by
 rw [TP (hn.sublist ((List.filter_sublist).map _)),List.filter_filter]
 refine DP fun J xW => ?_
 simp only [lC,mg]
 have I:e.1=J.1↔e.2.2=J.2.2:=by
  have key:∀ {l:bZ} {b:Nat},eX c b l→(l.map (·.1)).Nodup→e∈l→J∈l→(e.1=J.1↔e.2.2=J.2.2):=by
   intro l
   induction l with
   | nil=>intro b _ _ h; cases h
   | cons y l ih =>
    intro b hb hn U h2
    simp only [bJ,lW] at hn
    rcases List.mem_cons.1 U with q1 | h3 <;> rcases List.mem_cons.1 h2 with q2 | h4
    ·rw [q1,q2]; simp
    ·subst q1
     have:=oQ hb.2.2 J h4
     exact ⟨fun h=>(hn.1 (h ▸ jd (f:=fun e:Int×V×Nat=>e.1) h4)).elim,fun h=>by omega⟩
    ·subst q2
     have:=oQ hb.2.2 e h3
     exact ⟨fun h=>(hn.1 (h ▸ jd (f:=fun e:Int×V×Nat=>e.1) h3)).elim,fun h=>by omega⟩
    ·exact ih hb.2.2 hn.2 h3 h4
  exact key hb hn he xW
 by_cases h:e.2.2=J.2.2
 ·have U:=qx hb he
  have h2:=qx hb xW
  rw [h,h2] at U
  have h3:J.2.1=e.2.1:=by injection U with U; injection U with _ U; rw [U]
  rw [h3,hf,h,dh]
  have:=I.2 h
  simp [this]
 ·rw [cS h,qU]
  have:J.1≠e.1:=fun h2=>h (I.1 h2.symm)
  simp [this]
theorem zE {c:Nat}{f:Int×V×Nat→Bool}: ∀ {l:bZ} {b:Nat},eX c b l→eX c b (l.filter f):=by
 intro l
 induction l with
 | nil=>intro b h; exact h
 | cons e l I =>
  intro b h
  simp only [tD]
  split
  ·exact ⟨h.1,h.2.1,I h.2.2⟩
  ·exact CR (by have:=h.1; omega) (I h.2.2)
section
variable {told:dH} {h:H} {S:List ax} {X:ax} {r k q p bX:Nat} {v x wh di:V} {l b:List Nat} {π:Pl} {m:List Fm} {μ:Lg} {δ:Dk}
theorem XZ {P:Program}{t:TypeId}{id n:Nat}{cs l:List V}(J:T.get h.tr id=some (.cells n cs false))(hs:bG P t=some l.length)(hl:cs.length=n)(U:l.length=n)(I:l.all storable=true):
  gV P h t (.ptr id 0) (.agg l)=some (h.put id (some (.cells n l false))):=by
 simp only [gV,hs,V.cells,I,dh,iy,ag,wrN,J]
 rw [aQ.2 (by omega),ag,U,dh]
 rfl
theorem TR {P:Program}{t kt et:TypeId}{k:IntKind}{id c j:Nat}{l:bZ}{n:Int}{u:TypeId}(s:Sat h S)(U:getA S j=some (fy id l c))(hu:P.underlying t=some (.map kt et))(hk:P.underlying kt=some (.int k)):
  ∃v h',builtinV P h .delete #[t,u] [.map id,.int .i64 n]=some (v,h')∧(fun (_:V) (h':H)=>h'.next=h.next∧(∀i,i≠id→T.get h'.tr i=T.get h.tr i)∧Sat h' (setA S j (fy id (mG n l) c))) v h':=by
 have hg:=s.row U
 have key:∃h',mZ P h t (.map id) (.int .i64 n)=some h'∧h'.next=h.next∧(∀i,i≠id→T.get h'.tr i=T.get h.tr i)∧Sat h' (setA S j (fy id (mG n l) c)):=by
  obtain ⟨h',I,J⟩:=s.delete (n:=n) U hu hk
  refine ⟨h',I,?_⟩
  simp only [mZ,hu,hk,hg,keyBeq,dD,ag,rB] at I
  cases hq:idxE n l 0 with
  | none =>
   rw [hq] at I
   simp only [au] at I
   subst I
   exact ⟨rfl,fun _ _=>rfl,J⟩
  | some q =>
   obtain ⟨i,u⟩:=q
   rw [hq] at I
   simp only [au] at I
   subst I
   exact ⟨rfl,fun i hi=>by rw [b9,af hi],J⟩
 obtain ⟨h',I,J⟩:=key
 refine ⟨.bD [],h',?_,J⟩
 simp only [builtinV,je,I]
theorem QH (I:W told){n:Int}{a:Int}{b:Bool}: Call ⟨Tryz.prog,told⟩ 77 [.int .i64 n,.agg [.int .u64 a,.bool b]] h fun v h'=>v=.bool (!b)∧h'=newRow h [.int .u64 a,.bool b]:=by
 refine Call.of_wp (I.free _ rfl) Tryz.func77 rfl rfl (zg rfl (zo rfl (gC rfl rfl) (zk 4 rfl (zf rfl (Eh _ _) (zl rfl (J5 (off:=1) (n:=2) (cs:=[.int .u64 a,.bool b]) (st:=false) jW (by simp only [newRow,V.cells,fM,bP]; rfl) rfl) ?_)))))
 exact zo rfl (dX rfl rfl) (zk 2 rfl (WP.ret ⟨aa,_,rfl,rfl,rfl⟩))
noncomputable def dfA : Code:=cK [0] ((Tryz.f76.body).getD .skip)
noncomputable def Wa : Code:=cK [1,0,0,0] ((Tryz.f76.body).getD .skip)
noncomputable def Zd : Code:=cK [1,0,0,1,1,0] ((Tryz.f76.body).getD .skip)
theorem QI : Tryz.f76.body=some (.seq dfA (.block 0 (.loop (.seq Wa (.seq (.cond (.tmp 9) .skip (.exit 0)) (.block 1 Zd)))))):=rfl
theorem TS : ∃id I J,Wa=.region id #[I,J] false∧I.guard=none∧J.guard=none∧I.op=.next (.tmp 7) false∧I.dst=some 8∧J.op=.extract (.tmp 8) 0∧J.dst=some 9:=⟨_,_,_,rfl,rfl,rfl,rfl,rfl,rfl,rfl⟩
abbrev si : V:=.fn (.func 77) [] []
def Ze (h₀:H)(it mid clock:Nat)(es:bZ)(S:List ax)(j:Nat)(E:List (Nat×V))(h:H): Prop :=
 ∃seen,Has E [(0,.map mid),(1,si),(7,.ptr it 0)]∧j=(leftV seen (es.map ep)).length∧h.next+2*j=h₀.next+1+2*es.length∧(∀i,i<h₀.next→i≠mid→i≠it→T.get h.tr i=T.get h₀.tr i) ∧
  Sat h (pt it (.iter mid clock clock seen)::fy mid (es.filter (lC seen)) clock::S)
theorem QJ {h₀:H}{it mid clock:Nat}{es:bZ}(Bj:it<h₀.next+1)(hb:eX clock 0 es)(hn:(es.map (·.1)).Nodup)(hv:∀e∈es,∃a b,e.2.1=.agg [.int .u64 a,.bool b]){j:Nat}{E:List (Nat×V)}(h0:Ze h₀ it mid clock es S j E h):
  eD CB 19 (.loop (.seq Wa (.seq (.cond (.tmp 9) .skip (.exit 0)) (.block 1 Zd)))) E h fun ex E' h'=>ex=.exit 0∧h'.next=h₀.next+1+2*es.length∧(∀i,i<h₀.next→i≠mid→i≠it→T.get h'.tr i=T.get h₀.tr i) ∧
   ∃seen,Sat h' (pt it (.iter mid clock clock seen)::fy mid (es.filter (fun e=>nZ e.2.1)) clock::S):=by
 refine eD.loop (Ze h₀ it mid clock es S) ?_ h0
 rintro j E h ⟨seen,hE,rfl,I,hs,s⟩
 have g1:=s.row (k:=0) rfl
 have g2:=s.row (k:=1) rfl
 have J:=zE (f:=lC seen) hb
 obtain ⟨id,Pp,S1,q0,q1,q2,q3,q4,q5,q6⟩:=TS
 refine eD.seq ?_
 rw [q0]
 have hL:=next_at g1 (aK _) g2 J
 refine eD.next g_ fB q1 q2 q3 q4 q5 rfl q6 rfl rfl (r:=it) ?_ hL fun q hq => ?_
 ·exact hE.2.2.1
 ·rcases HC g1 (aK _) g2 J hL q hq with ⟨rfl,rf⟩ | ⟨e,he,Sy,_,rfl⟩
  ·have X0:∀e∈es,inL seen e.2.2=true:=fun e he=>by
    cases hi:inL seen e.2.2 with
    | true=>rfl
    | false =>
     have:=rf e (List.mem_filter.2 ⟨he,by simp [lC,hi]⟩)
     rw [hi] at this; cases this
   have wS:leftV seen (es.map ep)=[]:=by
    rw [←LS]
    rw [next_at g1 (aK _) g2 J] at hL
    cases hl:leftV seen ((es.filter (lC seen)).map ep) with
    | nil=>rfl
    | cons y l =>
     have:=Fo (e:=y) (seen:=seen) (l:=(es.filter (lC seen)).map ep) (by rw [hl]; exact bn)
     obtain ⟨e,he,rfl⟩:=List.mem_map.1 this.1
     have h2:=rf e he
     rw [show (ep e).2.2=e.2.2 from rfl,h2] at this
     cases this.2
   refine ⟨.bool false,[],rfl,?_⟩
   refine eD.seq (eD.cond (t:=false) rfl ?_)
   refine eD.of g_ fB (WP.exit ?_)
   refine ⟨rfl,?_,hs,seen,?_⟩
   ·rw [wS] at I; simpa using I
   ·rw [←QE X0]; exact s
  ·refine ⟨.bool true,_,rfl,?_⟩
   refine eD.seq (eD.cond (t:=true) rfl ?_)
   refine eD.of g_ fB (WP.skip ?_)
   refine eD.block (eD.of g_ fB ?_)
   have U:=(List.mem_filter.1 he).1
   have rL:=LV hb U Sy
   have s:=s.put (o':=.iter mid clock clock (seen++[e.2.2])) (k:=0) rfl
   have hs:∀i,i<h₀.next→i≠mid→i≠it→T.get (h.put it (some (.iter mid clock clock (seen++[e.2.2])))).tr i=T.get h₀.tr i:=fun i h1 h2 h3=>by rw [b9,af h3]; exact hs i h1 h2 h3
   have I:(h.put it (some (.iter mid clock clock (seen++[e.2.2])))).next+2*(leftV seen (es.map ep)).length=h₀.next+1+2*es.length:=I
   have hle:h₀.next≤(h.put it (some (.iter mid clock clock (seen++[e.2.2])))).next:=by
    have:(leftV seen (es.map ep)).length≤(es.map ep).length:=by
     have:∀l:List (V×V×Nat),(leftV seen l).length≤l.length:=by
      intro l
      induction l with
      | nil=>exact aK _
      | cons y l ih=>simp only [leftV]; cases inL seen y.2.2 <;> simp <;> omega
     exact this _
    simp only [en] at this
    omega
   generalize h.put it (some (.iter mid clock clock (seen++[e.2.2])))=h' at s hs I hle
   have g1:=s.row (k:=0) rfl
   have g2:=s.row (k:=1) rfl
   obtain ⟨a,b,pH⟩:=hv e U
   have Wb:=HB g1 g2 J he
   rw [pH] at Wb
   refine WP.has (F:=[(0,.map mid),(1,si),(7,.ptr it 0),(9,.bool true)]) ⟨hE.1,hE.2.1,hE.2.2.1,rfl,aa⟩ (zg rfl (aB.any rfl rfl rfl (OpR.entry rfl rfl Wb) ?_))
   rintro v h ⟨rfl,rfl⟩
   refine zk 2 rfl (zo rfl (cC w8) ?_)
   have s1:=s.new (.cells 2 [.int .u64 0,.bool false] false)
   have e1:=XZ (P:=Tryz.prog) (t:=143) (l:=[.int .u64 a,.bool b]) (s1.row (k:=0) rfl) va rfl rfl rfl
   have s2:=s1.put (o':=.cells 2 [.int .u64 a,.bool b] false) (k:=0) rfl
   refine za rfl (aB.RT rfl rfl (wg rfl rfl e1) (zk 5 rfl (zl rfl (s2.fG (k:=0) rfl Lt va) (zc rfl (QH W.base (n:=e.1) (a:=a) (b:=b)) ?_))))
   rintro v h'' ⟨rfl,rfl⟩
   have s3:=s2.new (.cells 2 [.int .u64 a,.bool b] false)
   have Sq:∀i,i<h₀.next→i≠mid→i≠it→T.get (newRow ((h.new (.cells 2 [.int .u64 0,.bool false] false)).put h.next (some (.cells 2 [.int .u64 a,.bool b] false))) [.int .u64 a,.bool b]).tr i=T.get h₀.tr i:=fun i h1 h2 h3=>by
    rw [newRow,fM,af (by show i≠h.next+1; omega),b9,af (by omega),fM,af (by omega)]
    exact hs i h1 h2 h3
   refine zv ?_
   refine WP.split rfl ?_ ?_
   ·intro hq
    have AY:b=false:=by simpa using hq
    subst AY
    have s4:=(s3.ae [2,2])
    refine zK 3 rfl (aB.g8 rfl rfl (OpR.builtin rfl rfl rfl (TR (n:=e.1) s4 (j:=1) rfl qt bF)) ?_)
    rintro v h5 ⟨k1,k2,k3⟩
    refine zv ?_
    refine ⟨_,?_,seen++[e.2.2],⟨rfl,rfl,rfl,aa⟩,rfl,?_,?_,?_⟩
    ·omega
    ·rw [k1]
     show h.next+1+1+_=_
     omega
    ·intro i h1 h2 h3
     rw [k2 i h2]
     exact Sq i h1 h2 h3
    ·rw [TQ hb hn U (by rw [pH]; rfl) Sy]
     exact (k3.del 3).del 2
   ·intro hq
    have AY:b=true:=by simpa using hq
    subst AY
    refine WP.skip ?_
    refine ⟨_,?_,seen++[e.2.2],⟨rfl,rfl,rfl,aa⟩,rfl,?_,Sq,?_⟩
    ·omega
    ·show h.next+1+1+_=_
     omega
    ·rw [QG hb U (by rw [pH]; rfl)]
     exact (s3.del 1).del 0
end
def HG (args:List V)(h:H)(r:V×H): Prop:=∃(mid:Nat) (es:bZ) (clock:Nat),args=[.map mid,si]∧T.get h.tr mid=some (.map (es.map ep) clock) ∧
 r=(.bD [],⟨h.next+1+2*es.length,(h.put mid (some (.map ((es.filter (fun e=>nZ e.2.1)).map ep) clock))).tr⟩)
structure W2 (told:dH): Prop where
 w:W told
 sync:told 75=some (nA Tryz.prog 75 Ew)
 del:told 76=some (nA Tryz.prog 76 HG)
theorem Kp : ∀ {l m:bZ},l.map ep=m.map ep→l=m:=by
 intro l
 induction l with
 | nil=>intro m h; cases m with
  | nil=>rfl
  | cons _ _=>cases h
 | cons e l J=>intro m h; cases m with
  | nil=>cases h
  | cons x m =>
   simp only [bJ,vQ] at h
   obtain ⟨I,U⟩:=h
   rw [J U]
   obtain ⟨e1,e2⟩:=e
   obtain ⟨x1,x2⟩:=x
   simp only [ep,aP,V.int.injEq,true_and] at I
   rw [I.1,I.2]
theorem LW {a b:PM}: ∀ {l:bZ} {m:List (Int×(Nat×Bool))},(eu (fun v x=>.pu (v=.agg [.int .u64 (x.1:Int),.bool x.2])) l m).p a b →
  (eu (fun v x=>.pu (v=.agg [.int .u64 (x.1:Int),.bool x.2])) (l.filter fun e=>nZ e.2.1) (m.filter fun e=>e.2.2)).p a b:=by
 intro l
 induction l with
 | nil=>intro m h; cases m with
  | nil=>exact h
  | cons _ _=>exact h.elim
 | cons e l I=>intro m h; cases m with
  | nil=>exact h.elim
  | cons x m =>
   obtain ⟨⟨h1,J⟩,U⟩:=h
   have h4:e.2.1=.agg [.int .u64 (x.2.1:Int),.bool x.2.2]:=J
   have hf:nZ e.2.1=x.2.2:=by rw [h4]; rfl
   simp only [tD,hf]
   split
   ·exact ⟨⟨h1,J⟩,I U⟩
   ·exact I U
def Dk.dL (δ:Dk): Int×Dk:=if δ.dead=true then (9,δ) else if δ.aF=0 then (9,δ.die) else (0,δ.c_.sync)
section
variable {told:dH} {h:H} {S:List ax} {X:ax} {r k q p bX:Nat} {v x wh di:V} {l b:List Nat} {π:Pl} {m:List (Int×(Nat×Bool))} {μ:Lg} {δ:Dk}
theorem uM {a b:Obj}{id:Nat}(J:T.get h.tr id=some a)(I:T.get h.tr id=some b): a=b:=by rw [J] at I; exact bw I
theorem Kq (hT:W2 told)(s:Sat h (aD p δ::S))(U:δ.Ok)(hk:∀e∈δ.now,0≤e.1∧e.1<δ.aq.length): Call ⟨Tryz.prog,told⟩ 75 [.ptr p 0] h fun v h'=>v=.int .i64 δ.dL.1∧Sat h' (aD p δ.dL.2::S):=by
 obtain ⟨r,h1,h2⟩:=Og s U hk
 obtain ⟨r,h3,h4⟩:=zC h1 h2
 refine ⟨r.1,r.2,g6.told hT.sync y_ rfl h3,?_⟩
 clear h1 h2 h3
 obtain ⟨p',cs,e1,gp',h4⟩:=h4
 injection e1 with e1 _
 injection e1 with e1 _
 subst e1
 obtain ⟨pg,wt,nw,lg,mk,tn,tl,ops,s1⟩:=bt.1 s
 have gp:=s1.row (k:=0) rfl
 have e2:=uM gp gp'
 injection e2 with _ e2 _
 subst e2
 rcases h4 with ⟨hd,rfl⟩ | ⟨hd,v1,h1,Cq,h4⟩
 ·have hd:δ.dead=true:=by injection (bw hd)
  simp only [Dk.dL,aj hd]
  exact ⟨aa,s⟩
 ·have hd:δ.dead=false:=by injection (bw hd)
  obtain ⟨v2,h2,aax,hR⟩:=mz W.base s U.aF
  obtain ⟨rfl,rfl⟩:=g6.det Cq aax
  simp only [Dk.dL,hd,eS,bK]
  rcases hR with ⟨h0,rfl,s2⟩ | ⟨h0,rfl,s2⟩
  ·rcases h4 with ⟨_,rfl⟩ | ⟨hv,_⟩
   ·rw [aj h0]; exact ⟨rfl,s2⟩
   ·cases hv
  ·rcases h4 with ⟨hv,_⟩ | ⟨_,cs,im,N,row,mid,es,clock,g0,c1,c3,g1,g2,rfl⟩
   ·cases hv
   ·rw [af h0]
    refine ⟨rfl,?_⟩
    obtain ⟨pg,wt,nw,lg,mk,tn,tl,ops,s3⟩:=bt.1 s2
    obtain ⟨Zf,row',rfl,s4⟩:=ga.1 (s3.ae [1])
    obtain ⟨J,es',I,rfl,hb,hn,s5⟩:=eA.1 (s4.ae [4])
    have s6:=s5.ae [4,2,0,0,0,0]
    have e3:=uM (s6.row (k:=0) rfl) g0
    injection e3 with _ e3 _
    subst e3
    have c1:=bw c1
    injection c1 with c1 _ c2 _
    subst c1; subst c2
    have c3:=bw c3
    injection c3 with c3
    subst c3
    have e4:=uM (s6.row (k:=1) rfl) g1
    injection e4 with _ e4 _
    subst e4
    have e5:=uM (s6.row (k:=2) rfl) g2
    injection e5 with e5 e6
    have e5:=Kp e5
    subst e5; subst e6
    have s7:=s6.new (.iter J I I [])
    have s8:=s7.put (o':=.cells δ.c_.aq.length (nB es' row') false) (k:=2) rfl
    have s9:=s8.put (o':=.cells 12 (List.set (ve δ.c_.room (.sl Zf 0 δ.c_.aq.length (.exact δ.c_.aq.length)) wt (.map J) lg δ.c_.aL mk δ.c_.aF ops δ.c_.dead tn tl) 2 .bz) false) (k:=1) rfl
    have s10:=s9.put (o':=.map [] I) (k:=3) rfl
    have s11:=s10.kill
    have s12:Sat _ (each lz row' δ.c_.aq::eu (fun v b=>.cm v b) es' δ.c_.now::_):=s11.ae [4,3]
    have s13:=s12.two (C:=each lz (nB es' row') (laidP δ.c_.now δ.c_.aq)) (aE.each aE.lz _ _) (aE.G6 (fun _ _=>aE.cm _ _) _ _) fun a b q1 q2=>Jm q2 (fun e he=>by
     have:=U.now e he
     rintro hq; rw [hq] at this; simp at this) q1
    have s14:=(eA (f:=fun v b=>.cm v b) (v:=.map J) (m:=([]:List (Int×List Nat)))).2 ⟨J,[],I,rfl,aa,kq,((s13.ae [3]).gD aa).ae [1,0]⟩
    have hlen:(laidP δ.c_.now δ.c_.aq).length=δ.c_.aq.length:=nC
    have Zg:=ga.2 ⟨Zf,nB es' row',rfl,by rw [hlen]; exact s14.ae [3,1]⟩
    rw [hlen] at Zg
    have s16:=(my (v:=.bz) (m:=[])).2 ⟨[],((Zg.del 3).gD aa).qq⟩
    exact bt.2 ⟨_,_,_,_,_,_,_,ops,s16.ae [3,1,0,0]⟩
theorem QK (s:Sat h (C0 di m::S)): ∃r,HG [di,si] h r∧∀(c:Ctx) (w:World),Rel c h w→(∀x∈[di,si],wf c x)→fT Tryz.prog 76 [di,si] c w r.1 r.2:=by
 obtain ⟨mid,es,clock,rfl,hb,hn,s1⟩:=eA.1 s
 have gm:=s1.row (k:=0) rfl
 obtain ⟨a,b,_,_,q3⟩:=s1.at (k:=1) rfl
 have I:=tc q3
 have hv:∀e∈es,∃a b,e.2.1=.agg [.int .u64 a,.bool b]:=fun e he=>by
  obtain ⟨x,_,k2⟩:=zD q3 e he
  exact ⟨_,_,k2⟩
 refine ⟨_,⟨mid,es,clock,rfl,gm,rfl⟩,fun c w hr ha => ?_⟩
 refine fT.C3 (C:=CB) (args:=[.map mid,si]) HF QI (show 2≤Tryz.f76.ntmps by decide) ?_ hr ha
 refine eD.seq (eD.of g_ fB ?_)
 have s:=s1
 refine zK 2 rfl (aB.any rfl rfl rfl (OpR.range rfl rfl (show rangeV Tryz.prog h 138 (.map mid)=some (.ptr h.next 0,h.new (.iter mid clock clock [])) by simp only [rangeV,qt,gm])) ?_)
 rintro v h' ⟨rfl,rfl⟩
 refine zv ?_
 have s7:=s.new (.iter mid clock clock [])
 refine eD.block ((QJ (h₀:=h) (es:=es) (it:=h.next) (mid:=mid) (clock:=clock) (S:=eu (fun v (x:Nat×Bool)=>.pu (v=.agg [.int .u64 (x.1:Int),.bool x.2])) es m::S) (by omega) hb (by rw [I]; exact hn) hv ⟨[],⟨rfl,rfl,rfl,aa⟩,rfl,?_,?_,?_⟩).mono ?_)
 ·have:(leftV [] (es.map ep)).length=es.length:=by
   have:∀l:List (V×V×Nat),leftV [] l=l:=by
    intro l
    induction l with
    | nil=>rfl
    | cons y l ih=>simp only [leftV,inL,az,ih]
   rw [this,en]
  rw [this]
  rfl
 ·intro i J h2 h3
  rw [fM,af h3]
 ·rw [QF]; exact s7
 ·rintro ex E' h' ⟨rfl,U,hs,seen,s'⟩
  refine ⟨aa,rfl,U.symm,fun id o ho => ?_⟩
  rw [b9] at ho
  by_cases J:id=mid
  ·rw [aj J] at ho; rw [J,s'.row (k:=1) rfl]; exact ho
  ·rw [af J] at ho
   have:=s.wf id o ho
   rw [hs id this J (by omega)]
   exact ho
theorem Wc (hT:W2 told)(s:Sat h (C0 di m::S)): Call ⟨Tryz.prog,told⟩ 76 [di,si] h fun v h'=>v=.bD []∧Sat h' (C0 di (m.filter fun e=>e.2.2)::S):=by
 obtain ⟨r,U,h2⟩:=QK s
 obtain ⟨r,h3,h4⟩:=zC U h2
 refine ⟨r.1,r.2,g6.told hT.del HF rfl h3,?_⟩
 clear U h2 h3
 obtain ⟨mid,es,clock,e1,g1,rfl⟩:=h4
 injection e1 with e1 _
 subst e1
 refine ⟨rfl,?_⟩
 obtain ⟨abN,es',I,e2,hb,hn,s1⟩:=eA.1 s
 injection e2 with e2
 subst e2
 have J:=uM (s1.row (k:=0) rfl) g1
 injection J with J e4
 have J:=Kp J
 subst J; subst e4
 have s2:Sat h (eu _ es' m::fy mid es' I::S):=s1.ae [1]
 have s3:=s2.fP (B:=eu (fun v x=>.pu (v=.agg [.int .u64 (x.1:Int),.bool x.2])) (es'.filter fun e=>nZ e.2.1) (m.filter fun e=>e.2.2)) fun a b q=>LW q
 have s4:=s3.put (o':=.map ((es'.filter fun e=>nZ e.2.1).map ep) I) (k:=1) rfl
 have s5:=s4.cG (k:=1+2*es'.length) (h':=⟨h.next+1+2*es'.length,(h.put mid (some (.map ((es'.filter fun e=>nZ e.2.1).map ep) I))).tr⟩)
  ⟨fun id o ho=>by have U:=s4.wf id o ho; have h2:(h.put mid (some (.map ((es'.filter fun e=>nZ e.2.1).map ep) I))).next=h.next:=rfl; show id<h.next+1+2*es'.length; omega,
   by show h.next≤h.next+1+2*es'.length; omega,by show h.next+1+2*es'.length≤h.next+(1+2*es'.length); omega,fun _ _ _=>rfl⟩
 exact eA.2 ⟨mid,es'.filter (fun e=>nZ e.2.1),I,rfl,zE hb,hn.sublist ((List.filter_sublist).map _),s5.ae [1,0]⟩
def dP (π:Pl)(δ:Dk): Int×Pl×Dk:=if δ.dL.1≠0 then (δ.dL.1,π,δ.dL.2) else (0,{ π with aN:=π.aN.filter fun e=>e.2.2 },δ.dL.2)
theorem HH (I:W2 told)(s:Sat h (b8 r p q π::aD p δ::S))(J:δ.Ok)(U:∀e∈δ.now,0≤e.1∧e.1<δ.aq.length):
  Call ⟨Tryz.prog,told⟩ 39 [.ptr r 0] h fun v h'=>v=.int .i64 (dP π δ).1∧Sat h' (b8 r p q (dP π δ).2.1::aD p (dP π δ).2.2::S):=by
 obtain ⟨bX,wh,di,s⟩:=dg.1 s
 refine Call.of_wp (I.w.free _ rfl) Tryz.func39 rfl rfl (zK 9 rfl (zf rfl (wm _ _) (zl rfl (s.ld (k:=0) rfl jR rfl) (zc rfl (Kq I (s.ae [4]) J U) ?_))))
 rintro v h ⟨rfl,s⟩
 refine zk 5 rfl ?_
 by_cases he:δ.dL.1=0
 ·skip
  refine zh rfl (ah rfl rfl aX) (by simp; exact he) ?_
  refine zk 7 rfl (zf rfl (m5 _ _) (zl rfl (s.ld (k:=1) rfl rQ rfl) (zc rfl (Wc I (s.ae [4])) ?_)))
  rintro v h ⟨rfl,s⟩
  refine zk 5 rfl (WP.ret ⟨aa,_,rfl,?_⟩)
  rw [dP,af (by simpa using he)]
  exact ⟨rfl,(dg.2 ⟨bX,wh,di,s.ae [2,2,2,0,0]⟩)⟩
 ·skip
  refine zt rfl (ah rfl rfl aX) (by simp; exact he) ?_
  refine zk 7 rfl (WP.ret ⟨aa,_,rfl,?_⟩)
  rw [dP,aj he]
  exact ⟨rfl,(dg.2 ⟨bX,wh,di,s.ae [1,1,1,1,0]⟩)⟩
end
theorem fX.ak {π I:Pl}(J:fX π I): ∀g∈I.ak,∃f∈π.ak,∃t,g={ f with ff:=t }:=by
 intro g hg
 obtain ⟨i,hi,rfl⟩:=List.mem_iff_getElem.1 hg
 have hf:π.ak[i]?=some (π.ak[i]'(by rw [←J.len]; exact hi)):=bh _
 obtain ⟨t,U⟩:=J.get i _ hf
 rw [bh hi] at U
 exact ⟨_,o8 _,t,bw U⟩
theorem fX.ok {π I:Pl}(J:fX π I)(h:π.Ok)(hh:I.hand<I.ak.length): I.Ok:=by
 refine ⟨hh,by rw [J.len]; exact h.many,by rw [J.aH,J.len]; exact h.aH,fun g U => ?_,fun g U => ?_⟩
 ·obtain ⟨f,hf,t,rfl⟩:=J.ak g U
  exact h.len f hf
 ·obtain ⟨f,hf,t,rfl⟩:=J.ak g U
  exact h.pins f hf
theorem Pl.Ok.set {π:Pl}{i:Nat}{f:Fm}{w:List (Int×Int)}{d:List (Int×(Nat×Bool))}(h:π.Ok)(hw:∀e∈w,0≤e.2∧e.2<π.ak.length)(J:f.b.length≤512)(U:0≤f.pins∧f.pins≤4294967296): Pl.Ok { π with ak:=π.ak.set i f,aH:=w,aN:=d }:=by
 refine ⟨by simp only [dw]; exact h.hand,by simp only [dw]; exact h.many,fun e he=>by simp only [dw]; exact hw e he,fun g I => ?_,fun g I => ?_⟩
 ·rcases oV I with I | rfl
  ·exact h.len g I
  ·exact J
 ·rcases oV I with I | rfl
  ·exact h.pins g I
  ·exact U
theorem TT {α:Type}{n:Int}: ∀ {l:List (Int×α)} {e:Int×α},e∈m8 n l→e∈l:=by
 intro l
 induction l with
 | nil=>intro e h; exact h
 | cons x l I =>
  intro e h
  simp only [m8] at h
  split at h
  ·exact bl _ h
  ·rcases List.mem_cons.1 h with rfl | h
   ·exact bn
   ·exact bl _ (I h)
theorem TU {α:Type}{n:Int}{x:α}: ∀ {l:List (Int×α)} {e:Int×α},e∈cM n x l→e=(n,x)∨e∈l:=by
 intro l
 induction l with
 | nil=>intro e h; simp only [cM,vL] at h; exact .inl h
 | cons y l I =>
  intro e h
  simp only [cM] at h
  split at h
  ·rcases List.mem_cons.1 h with rfl | h
   ·exact .inl rfl
   ·exact .inr (bl _ h)
  ·rcases List.mem_cons.1 h with rfl | h
   ·exact .inr bn
   ·rcases I h with h | h
    ·exact .inl h
    ·exact .inr (bl _ h)
theorem BO {π:Pl}{i:Nat}{f:Fm}(h:π.Ok): (dz π i f).Ok:=by
 unfold dz
 refine h.set (fun e he => ?_) (by simp [eY]) (by simp [eY])
 split at he
 ·exact h.aH e he
 ·exact h.aH e (TT he)
theorem fY.ok {ε ε':aM}{n e:Int}{b:List Nat}(hr:fY ε n e b ε')(h:oP ε)(hp:∀f∈ε.1.ak,f.pins=0): oP ε':=by
 cases hr with
 | arg _=>exact h
 | Bj i f h1 h2 hl hf =>
  have hm:=br hf
  exact ⟨h.pl.set h.pl.aH (h.pl.len f hm) (by have:=hp f hm; simp only; omega),h.lg,h.dk⟩
 | out I i f h1 h2 hl J hf U he=>exact rD (ε:=(I,ε.2)) ⟨J.ok h.pl U,h.lg,h.dk⟩
 | read I i f h1 h2 hl J hf U he hr =>
  have:=rD (i:=i) (ε:=(I,ε.2)) ⟨J.ok h.pl U,h.lg,h.dk⟩
  exact ⟨BO this.pl,this.lg,this.dk⟩
 | bad I i f h1 h2 hl J hf U he hr hc =>
  have:=rD (i:=i) (ε:=(I,ε.2)) ⟨J.ok h.pl U,h.lg,h.dk⟩
  exact ⟨BO this.pl,this.lg,this.dk⟩
 | load I i f h1 h2 hl J hf U he hr hc =>
  have:=rD (i:=i) (ε:=(I,ε.2)) ⟨J.ok h.pl U,h.lg,h.dk⟩
  have h3:=BO (i:=i) (f:=f) this.pl
  have hlen:i<(dz (outF (I,ε.2) i).2.1 i f).ak.length:=by
   obtain ⟨c,hc⟩:=nY (ε:=(I,ε.2)) hf
   have:=(List.getElem?_eq_some_iff.1 hc).1
   simpa [dz] using this
  refine ⟨h3.set (fun e he => ?_) (by simp only; rw [this.dk.at]; omega) (by simp),this.lg,this.dk⟩
  rcases TU he with rfl | he
  ·simp only; omega
  ·exact h3.aH e he
theorem Fp {π:Pl}{n:Int}(h:π.Ok): (unpinF π n).2.Ok:=by
 unfold unpinF
 split
 ·exact h
 ·rename_i i hi
  split
  ·exact h
  ·rename_i f I
   have hm:=br I
   refine h.set h.aH (h.len f hm) ?_
   have:=h.pins f hm
   have J:f.pins≠0:=by
    unfold heldI at hi
    split at hi
    ·cases hi
    ·split at hi
     ·cases hi
     ·rename_i g U
      split at hi
      ·cases hi
      ·rename_i hp
       have:=bw hi
       subst this
       rw [U] at I
       have:=bw I
       subst this
       exact hp
   simp only; omega
inductive mD (ε:aM)(n:Int): Int→List Nat→aM→Prop where
 | dead (h:ε.2.2.dead=true):mD ε n 9 [] ε
 | iZ (e:Int) (b:List Nat) (ε':aM) (h:ε.2.2.dead=false) (hr:fY ε n e b ε') (he:e≠0):mD ε n e [] ε'
 | tq (b:List Nat) (ε':aM) (h:ε.2.2.dead=false) (hr:fY ε n 0 b ε') (he:(unpinF ε'.1 n).1≠0):mD ε n (unpinF ε'.1 n).1 [] ((unpinF ε'.1 n).2,ε'.2)
 | read (b:List Nat) (ε':aM) (h:ε.2.2.dead=false) (hr:fY ε n 0 b ε') (he:(unpinF ε'.1 n).1=0):mD ε n 0 b ((unpinF ε'.1 n).2,ε'.2)
theorem mD.ok {ε ε':aM}{n e:Int}{b:List Nat}(I:mD ε n e b ε')(h:oP ε)(J:∀f∈ε.1.ak,f.pins=0): oP ε':=by
 cases I with
 | dead _=>exact h
 | iZ e b ε' U I he=>exact I.ok h J
 | tq b ε' U I he=>have:=I.ok h J; exact ⟨Fp this.pl,this.lg,this.dk⟩
 | read b ε' U I he=>have:=I.ok h J; exact ⟨Fp this.pl,this.lg,this.dk⟩
def qy (a p q r:Nat)(op dv:V)(aC:Nat): List V:=[.ptr p 0,.ptr q 0,.ptr r 0,op,dv,.int .u64 (aC:Int)]
def cu (a p q r:Nat)(op:V)(data:List Nat)(aC:Nat): ax:=xs fun dv:V=>star [pt a (.cells 6 (qy a p q r op dv aC) false),.cm dv data]
def gO (g a:Nat)(now:List (Int×List Nat))(b_:Bool): ax:=xs fun nv:V=>star [pt g (.cells 3 [.ptr a 0,nv,.bool b_] false),i_ (fun v b=>.cm v b) nv now]
section
variable {told:dH} {h:H} {S:List ax} {X:ax} {r k q p bX a g aC:Nat} {op v x wh di:V} {l b data:List Nat} {π:Pl} {m:List Fm} {μ:Lg} {δ:Dk} {now:List (Int×List Nat)} {b_:Bool}
theorem bM : Sat h (cu a p q r op data aC::S)↔∃dv,Sat h (pt a (.cells 6 (qy a p q r op dv aC) false)::.cm dv data::S):=by
 simp only [cu,gw,dZ,fq,cW]
theorem fC : Sat h (gO g a now b_::S)↔∃nv,Sat h (pt g (.cells 3 [.ptr a 0,nv,.bool b_] false)::i_ (fun v b=>.cm v b) nv now::S):=by
 simp only [gO,gw,dZ,fq,cW]
theorem BP (U:W told){n:Int}(s:Sat h (cu a p q r op data aC::b8 r p q π::bf q p μ::aD p δ::S))(I:oP (π,μ,δ))(J:∀f∈π.ak,f.pins=0)(hw:δ.waiting.length≤268435456):
  Call ⟨Tryz.prog,told⟩ 23 [.ptr a 0,.int .i64 n] h fun v h'=>∃(e:Int) (b:List Nat) (ε:aM),mD (π,μ,δ) n e b ε ∧
   ((e≠0∧v=.bD [.bz,.int .i64 e]∧Sat h' (cu a p q r op data aC::b8 r p q ε.1::bf q p ε.2.1::aD p ε.2.2::S)) ∨
    (e=0∧∃u,v=.bD [u,.int .i64 0]∧Sat h' (bH u b::cu a p q r op data aC::b8 r p q ε.1::bf q p ε.2.1::aD p ε.2.2::S))):=by
 have s0:=s
 obtain ⟨dv,s⟩:=bM.1 s
 refine Call.of_wp (U.free _ rfl) Tryz.func23 rfl rfl (zK 10 rfl (zf rfl (r8 _ _) (zl rfl (s.ld (k:=0) rfl jR rfl) (zc rfl (xh U (s.ae [4])) ?_))))
 rintro v h ⟨rfl,rfl⟩
 refine zv ?_
 cases hd:δ.dead with
 | true =>
  exact zK 6 rfl (WP.ret ⟨aa,_,rfl,9,[],_,.dead hd,.inl ⟨by decide,rfl,s0⟩⟩)
 | false =>
  refine zK 6 rfl (zf rfl (ox _ _) (zl rfl (s.ld (k:=0) rfl vz rfl) (zm rfl (zc rfl (N6 (n:=n) U (s.ae [2,2,2]) I.pl J I.lg I.dk hw) ?_))))
  rintro v h ⟨e,b,ε,hr,(⟨he,rfl,s⟩ | ⟨rfl,u,rfl,s⟩)⟩
  ·dsimp only [bringA,getA,aT] at s
   refine zk 10 rfl (zt rfl (ah rfl rfl aX) (by simp; exact he) ?_)
   exact zk 8 rfl (WP.ret ⟨aa,_,rfl,e,[],ε,.iZ e b ε hd hr he,.inl ⟨he,rfl,bM.2 ⟨dv,s.ae [3,3,0,0,0]⟩⟩⟩)
  ·dsimp only [bringA,getA,aT] at s
   refine zk 10 rfl (zh rfl (ah rfl rfl aX) (rfl) ?_)
   have s:=s.ae [4,4,0,0,0,0]
   refine zk 8 rfl (zf rfl (ox _ _) (zl rfl (s.ld (k:=0) rfl vz rfl) (zm rfl ?_)))
   have lB:=hr.ok I J
   refine zc rfl (Hw (n:=n) U (s.ae [3]) lB.pl) ?_
   rintro v h ⟨rfl,s⟩
   refine zk 5 rfl ?_
   by_cases he:(unpinF ε.1 n).1=0
   ·skip
    refine zh rfl (ah rfl rfl aX) (by simp; exact he) ?_
    exact zk 9 rfl (WP.ret ⟨aa,_,rfl,0,b,_,.read b ε hd hr he,.inr ⟨rfl,u,rfl,(bM.2 ⟨dv,s.ae [1,1,0,1,1,0]⟩).ae [4,0,0,0,0]⟩⟩)
   ·skip
    refine zt rfl (ah rfl rfl aX) (by simp; exact he) ?_
    exact zk 8 rfl (WP.ret ⟨aa,_,rfl,_,[],_,.tq b ε hd hr he,.inl ⟨he,rfl,(bM.2 ⟨dv,(s.ae [1,1,0,1,1,0]).del 5⟩)⟩⟩)
end
structure Pl.Full (π:Pl): Prop where
 nodup:(π.aH.map (·.1)).Nodup
 j9:∀n i,lookL n π.aH=some i→0≤n∧∃f,π.ak[i.toNat]?=some f∧f.aO=n∧f.b.length=512
structure hG (ε:aM): Prop where
 ok:oP ε
 pins:∀f∈ε.1.ak,f.pins=0
 full:ε.1.Full
theorem Pl.Full.set {π:Pl}{i:Nat}{f g:Fm}{d:List (Int×(Nat×Bool))}(h:π.Full)(U:π.ak[i]?=some f)(hp:g.aO=f.aO)(hl:f.b.length=512→g.b.length=512): Pl.Full { π with ak:=π.ak.set i g,aN:=d }:=by
 refine ⟨h.nodup,fun n j hj => ?_⟩
 obtain ⟨h1,f',J,h3,h4⟩:=h.j9 n j hj
 refine ⟨h1,?_⟩
 by_cases I:i=j.toNat
 ·subst I
  rw [U] at J
  have:=bw J
  subst this
  exact ⟨g,iO (List.getElem?_eq_some_iff.1 U).1,hp.trans h3,hl h4⟩
 ·exact ⟨f',by simp only [iP I]; exact J,h3,h4⟩
theorem fX.full {π I:Pl}(J:fX π I)(h:π.Full): I.Full:=by
 refine ⟨by rw [J.aH]; exact h.nodup,fun n j U => ?_⟩
 rw [J.aH] at U
 obtain ⟨h1,f',h2,h3,h4⟩:=h.j9 n j U
 obtain ⟨t,ht⟩:=J.get _ _ h2
 exact ⟨h1,_,ht,h3,h4⟩
theorem sj {ε:aM}{i:Nat}(h:ε.1.Full): (outF ε i).2.1.Full:=by
 unfold outF
 split
 ·exact h
 ·rename_i f I
  split
  ·exact h
  ·split
   ·exact h
   ·split
    ·exact h
    ·split
     ·exact h
     ·exact h.set I rfl fun J=>J
theorem xu {π:Pl}{i:Nat}{f g:Fm}(h:π.Full)(hg:π.ak[i]?=some g)(hp:g.aO=f.aO): (dz π i f).Full∧∀n j,lookL n (dz π i f).aH=some j→j.toNat≠i:=by
 have key:∀n j,lookL n (dz π i f).aH=some j→lookL n π.aH=some j∧j.toNat≠i:=by
  intro n j I
  by_cases hf:f.aO<0
  ·have hw:(dz π i f).aH=π.aH:=by simp only [dz,aj hf]
   rw [hw] at I
   refine ⟨I,fun hi => ?_⟩
   obtain ⟨U,f',J,h3,_⟩:=h.j9 n j I
   rw [hi,hg] at J
   have:=bw J
   subst this
   omega
  ·have hw:(dz π i f).aH=m8 f.aO π.aH:=by simp only [dz,af hf]
   rw [hw,E7 h.nodup] at I
   by_cases hn:f.aO=n
   ·rw [aj hn] at I; cases I
   ·rw [af hn] at I
    refine ⟨I,fun hi => ?_⟩
    obtain ⟨U,f',J,h3,_⟩:=h.j9 n j I
    rw [hi,hg] at J
    have:=bw J
    subst this
    omega
 refine ⟨⟨?_,fun n j I => ?_⟩,fun n j I=>(key n j I).2⟩
 ·unfold dz
  simp only
  split
  ·exact h.nodup
  ·exact w_ h.nodup
 ·obtain ⟨U,J⟩:=key n j I
  obtain ⟨h3,f',h4,h5,h6⟩:=h.j9 n j U
  exact ⟨h3,f',by simp only [dz,iP (ji J)]; exact h4,h5,h6⟩
theorem Jn {π:Pl}{i:Nat}{n:Int}{b:List Nat}(h:π.Full)(hi:i<π.ak.length)(J:∀n j,lookL n π.aH=some j→j.toNat≠i)(U:0≤n)(hb:b.length=512): (jK π i n b).Full:=by
 refine ⟨iL h.nodup,fun m j I => ?_⟩
 simp only [jK,gQ] at I
 by_cases hm:n=m
 ·rw [aj hm] at I
  have:=bw I
  subst this; subst hm
  exact ⟨U,⟨n,b,1,true,false⟩,iO hi,rfl,hb⟩
 ·rw [af hm] at I
  obtain ⟨h3,f',h4,h5,h6⟩:=h.j9 m j I
  exact ⟨h3,f',by simp only [jK,iP (ji (J m j I))]; exact h4,h5,h6⟩
theorem fY.full {ε ε':aM}{n e:Int}{b:List Nat}(hr:fY ε n e b ε')(hd:ε.2.2.Ok)(h:ε.1.Full): ε'.1.Full∧(e=0→b.length=512):=by
 cases hr with
 | arg _=>exact ⟨h,fun h=>(by cases h)⟩
 | Bj i f h1 h2 hl U =>
  refine ⟨h.set U rfl fun hl=>hl,fun _ => ?_⟩
  obtain ⟨_,f',h4,_,h6⟩:=h.j9 n i hl
  rw [cP,U] at h4
  have:=bw h4
  subst this
  exact h6
 | out I i f h1 h2 hl hn U hh he=>exact ⟨sj (ε:=(I,ε.2)) (hn.full h),fun h=>absurd h he⟩
 | read I i f h1 h2 hl hn U hh he hr =>
  obtain ⟨c,J⟩:=nY (ε:=(I,ε.2)) U
  exact ⟨(xu (f:=f) (sj (ε:=(I,ε.2)) (hn.full h)) J rfl).1,fun h=>absurd h hr⟩
 | bad I i f h1 h2 hl hn U hh he hr hc =>
  obtain ⟨c,J⟩:=nY (ε:=(I,ε.2)) U
  exact ⟨(xu (f:=f) (sj (ε:=(I,ε.2)) (hn.full h)) J rfl).1,fun h=>absurd h hc⟩
 | load I i f h1 h2 hl hn U hh he hr hc =>
  obtain ⟨c,J⟩:=nY (ε:=(I,ε.2)) U
  have hi:=(List.getElem?_eq_some_iff.1 J).1
  obtain ⟨k1,k2⟩:=xu (f:=f) (sj (ε:=(I,ε.2)) (hn.full h)) J rfl
  have Sz:=(BM (ε:=(I,ε.2)) (i:=i) hd).at n
  exact ⟨Jn k1 (by simp only [dz,dw]; exact hi) k2 h1 Sz,fun _=>Sz⟩
theorem Bo {π:Pl}{n:Int}(h:π.Full): (unpinF π n).2.Full:=by
 unfold unpinF
 split
 ·exact h
 ·split
  ·exact h
  ·rename_i f I
   exact h.set I rfl fun J=>J
theorem fX.pins {π I:Pl}(J:fX π I)(h:∀f∈π.ak,f.pins=0): ∀f∈I.ak,f.pins=0:=fun g U=>by
 obtain ⟨f,hf,t,rfl⟩:=J.ak g U
 exact h f hf
theorem sn {ε:aM}{i:Nat}(h:∀f∈ε.1.ak,f.pins=0): ∀f∈(outF ε i).2.1.ak,f.pins=0:=by
 unfold outF
 split
 ·exact h
 ·rename_i f J
  have hm:=br J
  split
  ·exact h
  ·split
   ·exact h
   ·split
    ·exact h
    ·split
     ·exact h
     ·intro g I
      rcases oV I with I | rfl
      ·exact h g I
      ·exact h f hm
theorem xw {π:Pl}{i:Nat}{f:Fm}(h:∀f∈π.ak,f.pins=0): ∀f∈(dz π i f).ak,f.pins=0:=by
 intro g I
 rcases oV I with I | rfl
 ·exact h g I
 ·rfl
theorem fY.Kr {ε ε':aM}{n e:Int}{b:List Nat}(U:fY ε n e b ε')(he:e≠0)(hp:∀f∈ε.1.ak,f.pins=0): ∀f∈ε'.1.ak,f.pins=0:=by
 cases U with
 | arg _=>exact hp
 | Bj i f h1 h2 hl hf=>exact absurd rfl he
 | out I i f h1 h2 hl J hf hh he=>exact sn (ε:=(I,ε.2)) (J.pins hp)
 | read I i f h1 h2 hl J hf hh he U=>exact xw (f:=f) (sn (ε:=(I,ε.2)) (J.pins hp))
 | bad I i f h1 h2 hl J hf hh he U hc=>exact xw (f:=f) (sn (ε:=(I,ε.2)) (J.pins hp))
 | load I i f h1 h2 hl J hf hh he U hc=>exact absurd rfl he
theorem HI {m:List Fm}{i:Nat}{f g:Fm}(h:∀f∈m,f.pins=0)(J:g.pins=0): ∀x∈(m.set i f).set i g,x.pins=0:=by
 intro x I
 rw [Ap] at I
 rcases oV I with I | rfl
 ·exact h x I
 ·exact J
theorem uN {π:Pl}{n:Int}{i:Nat}{f:Fm}(hl:lookL n π.aH=some (i:Int))(I:π.ak[i]?=some f)(J:f.pins=1): heldI π n=some i∧unpinF π n=(0,{ π with ak:=π.ak.set i { f with pins:=0 } }):=by
 have U:heldI π n=some i:=by
  simp only [heldI,hl,cP,I,J]
  rfl
 refine ⟨U,?_⟩
 simp only [unpinF,U,I,J]
 rfl
theorem HJ {α:Type}{n:Int}{x:α}{l:List (Int×α)}: lookL n (cM n x l)=some x:=by rw [gQ,aj rfl]
theorem fY.at {ε ε':aM}{n:Int}{b:List Nat}(hr:fY ε n 0 b ε')(hp:∀f∈ε.1.ak,f.pins=0):
  ∃(i:Nat) (f:Fm),lookL n ε'.1.aH=some (i:Int)∧ε'.1.ak[i]?=some f∧f.pins=1∧f.b=b∧∀g:Fm,g.pins=0→∀x∈ε'.1.ak.set i g,x.pins=0:=by
 generalize J:(0:Int)=e at hr
 cases hr with
 | arg _=>cases J
 | Bj i f h1 h2 hl U =>
  have hi:=(List.getElem?_eq_some_iff.1 U).1
  refine ⟨i,{ f with ff:=true,pins:=f.pins+1 },hl,by simp [hi],by have:=hp f (br U); show f.pins+1=1; omega,rfl,fun g hg=>HI hp hg⟩
 | out I i f h1 h2 hl hn U hh he=>exact absurd J.symm he
 | read I i f h1 h2 hl hn U hh he hr=>exact absurd J.symm hr
 | bad I i f h1 h2 hl hn U hh he hr hc=>exact absurd J.symm hc
 | load I i f h1 h2 hl hn U hh he hr hc =>
  obtain ⟨c,YW⟩:=nY (ε:=(I,ε.2)) U
  have hi:=(List.getElem?_eq_some_iff.1 YW).1
  refine ⟨i,⟨n,_,1,true,false⟩,HJ,iO (by show i<(List.set _ i _).length; rw [dw]; exact hi),rfl,rfl,fun g hg=>HI (xw (f:=f) (sn (ε:=(I,ε.2)) (hn.pins hp))) hg⟩
theorem fY.BQ {ε ε':aM}{n:Int}{b:List Nat}(I:fY ε n 0 b ε')(J:∀f∈ε.1.ak,f.pins=0): (unpinF ε'.1 n).1=0∧∀f∈(unpinF ε'.1 n).2.ak,f.pins=0:=by
 obtain ⟨i,f,U,h2,h3,h4,h5⟩:=I.at J
 rw [(uN U h2 h3).2]
 exact ⟨rfl,h5 _ rfl⟩
theorem mD.kQ {ε ε':aM}{n e:Int}{b:List Nat}(I:mD ε n e b ε')(h:hG ε): hG ε':=by
 refine ⟨I.ok h.ok h.pins,?_,?_⟩
 ·cases I with
  | dead _=>exact h.pins
  | iZ e b ε' J I he=>exact I.Kr he h.pins
  | tq b ε' J I he=>exact (I.BQ h.pins).2
  | read b ε' J I he=>exact (I.BQ h.pins).2
 ·cases I with
  | dead _=>exact h.full
  | iZ e b ε' J I he=>exact (I.full h.ok.dk h.full).1
  | tq b ε' J I he=>exact Bo (I.full h.ok.dk h.full).1
  | read b ε' J I he=>exact Bo (I.full h.ok.dk h.full).1
theorem mD.len {ε ε':aM}{n:Int}{b:List Nat}(J:mD ε n 0 b ε')(h:hG ε): b.length=512:=by
 generalize I:(0:Int)=e at J
 cases J with
 | dead _=>cases I
 | iZ e b ε' U J he=>exact absurd I.symm he
 | tq b ε' U J he=>exact absurd I.symm he
 | read b ε' U J he=>exact (J.full h.ok.dk h.full).2 rfl
inductive oB (ε:aM)(now:List (Int×List Nat))(b_:Bool)(n:Int): Int→List Nat→aM→Prop where
 | arg (h:¬(0≤n∧n<ε.2.2.aq.length)):oB ε now b_ n 1 [] ε
 | b_ (h1:0≤n) (h2:n<ε.2.2.aq.length) (h:b_=true):oB ε now b_ n 18 [] ε
 | own (b:List Nat) (h1:0≤n) (h2:n<ε.2.2.aq.length) (h:b_=false) (hl:lookL n now=some b):oB ε now b_ n 0 b ε
 | read (e:Int) (b:List Nat) (ε':aM) (h1:0≤n) (h2:n<ε.2.2.aq.length) (h:b_=false) (hl:lookL n now=none) (hr:mD ε n e b ε'):oB ε now b_ n e b ε'
theorem oB.kQ {ε ε':aM}{now:List (Int×List Nat)}{b_:Bool}{n e:Int}{b:List Nat}(I:oB ε now b_ n e b ε')(h:hG ε): hG ε':=by
 cases I with
 | arg _=>exact h
 | b_ _ _ _=>exact h
 | own _ _ _ _ _=>exact h
 | read e b ε' J U h3 hl I=>exact I.kQ h
theorem OpR.invoke {C:dx}{E:List (Nat×V)}{h:H}{o:Oper}{cl:Go.Call}{x:Operand}{m:String}{t:TypeId}{u:V}{k:FuncId}{args:List V}{R:V→H→Prop}(J:o.op=.call cl)(hc:cl.callee=.invoke x m)
 (hx:lookO E x=some (.iface t u))(hm:methV C.P t m=some k)(ha:lookArgs E cl.args.toList=some args)(I:Am.Call C k (u::args) h R): OpR C E h o R:=by
 obtain ⟨v,h₁,⟨N,hN⟩,hr⟩:=I
 exact ⟨v,h₁,hr,fun env U=>⟨N,by simp only [evOp,J,evCall,ot U ha,hc,bO U hx,hm]; exact hN⟩⟩
theorem Ks : methV Tryz.prog 27 "Read" = some 18 := by kernel_rfl
theorem TV : methV Tryz.prog 24 "Read" = some 23 := by kernel_rfl
theorem F8 {h:H}{t e:TypeId}{x y:Operand}(hu:Tryz.prog.underlying t=some (.pointer e)): binV Tryz.prog h .neq t x y .cF .cF=some (.bool false):=by simp only [binV,eqV,hu]; rfl
theorem X1 {h:H}{t e:TypeId}{x y:Operand}{i o:Nat}(hu:Tryz.prog.underlying t=some (.pointer e)): binV Tryz.prog h .neq t x y (.ptr i o) .cF=some (.bool true):=by simp only [binV,eqV,hu]; rfl
theorem C6 {h:H}{t e:TypeId}{x y:Operand}{i o:Nat}(hu:Tryz.prog.underlying t=some (.pointer e)): binV Tryz.prog h .eql t x y (.ptr i o) .cF=some (.bool false):=by simp only [binV,eqV,hu]; rfl
theorem X2 {h:H}{t e k:TypeId}{x y:Operand}{i j n m:Nat}{cs ds:List V}(hu:Tryz.prog.underlying t=some (.pointer e))(I:bG Tryz.prog e=some k)(J:1≤k)(hi:T.get h.tr i=some (.cells n cs false))(U:T.get h.tr j=some (.cells m ds false))(hn:1≤n)(hm:1≤m):
  binV Tryz.prog h .eql t x y (.ptr i 0) (.ptr j 0)=some (.bool (Nat.beq i j)):=by
 simp only [binV,eqV,hu,I,aQ.2 J,ag,hi,U,aQ.2 hn,aQ.2 hm,iy,dh,Bool.and_true,je]
section
variable {told:dH} {h:H} {S:List ax} {X:ax} {r k q p bX a g aC:Nat} {op v x wh di:V} {l b data:List Nat} {π:Pl} {m:List Fm} {μ:Lg} {δ:Dk} {now:List (Int×List Nat)} {b_:Bool}
theorem Oh (I:W told)(s:Sat h (cu a p q r .cF data aC::S)): Call ⟨Tryz.prog,told⟩ 13 [.ptr a 0] h fun v h'=>∃g,v=.bD [.ptr g 0,.int .i64 0]∧Sat h' (gO g a [] false::cu a p q r (.ptr g 0) data aC::S):=by
 obtain ⟨dv,s⟩:=bM.1 s
 refine Call.of_wp (I.free _ rfl) Tryz.func13 rfl rfl (zK 10 rfl (zf rfl (uy _ _) (zl rfl (s.ld (k:=0) rfl GV rfl) (zh rfl (ah rfl rfl (F8 uL)) (rfl) (zk 7 rfl ?_)))))
 refine aB.yJ s rfl rfl rfl rfl (fun J h s => ?_)
 refine zo rfl (c7 rfl (by rw [aaf]; rfl)) ?_
 refine aB.cQ s rfl rfl rfl (gC rfl rfl) (fun U h s => ?_)
 refine zn rfl (zf rfl (uy _ _) ?_)
 refine zS rfl (by exact s.dQ (k:=2) rfl VH rfl (by decide) rfl rfl) (fun h s => ?_)
 refine zk 5 rfl (zf rfl (uy _ _) (zl rfl (s.ld (k:=2) rfl GV rfl) (zk 3 rfl (WP.ret ⟨aa,_,rfl,?_⟩))))
 have s1:=uD (f:=fun v (b:List Nat)=>.cm v b) (s.ae [1])
 have s:=fC.2 ⟨_,s1.ae [1]⟩
 exact ⟨_,rfl,(bM.2 ⟨dv,s.ae [1,1,0]⟩).ae [1]⟩
theorem HK (hT:W told){n:Int}(s:Sat h (gO g a now b_::cu a p q r op data aC::b8 r p q π::bf q p μ::aD p δ::S))(U:hG (π,μ,δ))(hw:δ.waiting.length≤268435456)(mK:∀e∈now,e.2.length=512):
  Call ⟨Tryz.prog,told⟩ 18 [.ptr g 0,.int .i64 n] h fun v h'=>∃(e:Int) (b:List Nat) (ε:aM),oB (π,μ,δ) now b_ n e b ε ∧
   ((e≠0∧v=.bD [.bz,.int .i64 e]∧Sat h' (gO g a now b_::cu a p q r op data aC::b8 r p q ε.1::bf q p ε.2.1::aD p ε.2.2::S)) ∨
    (e=0∧∃u,v=.bD [u,.int .i64 0]∧Sat h' (bH u b::gO g a now b_::cu a p q r op data aC::b8 r p q ε.1::bf q p ε.2.1::aD p ε.2.2::S))):=by
 have s0:=s
 obtain ⟨nv,s⟩:=fC.1 s
 obtain ⟨dv,s⟩:=bM.1 (s.ae [2])
 dsimp only [bringA,getA,aT] at s
 refine Call.of_wp (hT.free _ rfl) Tryz.func18 rfl rfl (zK 6 rfl (WP.block (zK 3 rfl ?_)))
 refine zd rfl (ah rfl rfl bu) ?_ ?_
 ·intro J
  have J:n<0:=by simpa using J
  exact zk 20 rfl (WP.ret ⟨aa,_,rfl,1,[],_,.arg (by simp only; omega),.inl ⟨by decide,rfl,s0⟩⟩)
 ·intro J
  have J:0≤n:=by simp at J; omega
  refine zk 4 rfl (zf rfl (uz _ _) (zl rfl (s.ld (k:=2) rfl BF rfl) (zn rfl (zf rfl (r8 _ _) (zl rfl (s.ld (k:=0) rfl jR rfl) (zc rfl (BL hT (s.ae [6])) ?_))))))
  rintro v h ⟨rfl,rfl⟩
  refine zd rfl (ah rfl rfl nq) ?_ ?_
  ·intro I
   have I:(δ.aq.length:Int)≤n:=by simpa using I
   exact zk 9 rfl (WP.ret ⟨aa,_,rfl,1,[],_,.arg (by simp only; omega),.inl ⟨by decide,rfl,s0⟩⟩)
  ·intro I
   have I:n<(δ.aq.length:Int):=by simp at I; omega
   refine zk 8 rfl (zf rfl (G0 _ _) ?_)
   cases b_ with
   | true =>
    exact zt rfl (aV rfl (s.ld (k:=2) rfl jW rfl)) (rfl) (zk 8 rfl (WP.ret ⟨aa,_,rfl,18,[],_,.b_ J I rfl,.inl ⟨by decide,rfl,s0⟩⟩))
   | false =>
    refine zh rfl (aV rfl (by exact s.ld (k:=2) rfl jW rfl)) (rfl) ?_
    refine za rfl (zv (zj rfl (WP.skip (zw (zg rfl (zk 2 rfl (zf rfl (uA _ _) (zl rfl (by exact s.ld (k:=2) rfl l_ rfl) ?_))))))))
    refine zm rfl ?_
    rcases mw (n:=n) (fun _ _=>aE.cm _ _) (s.ae [3]) lu bF yK with ⟨g1,g2,_⟩ | ⟨u,b,g1,g2,_,s2⟩
    ·refine aB.op rfl rfl rfl (gM rfl rfl g2) ?_
     refine zk 5 rfl (zv (zg rfl (zm rfl (zv (zj rfl (WP.skip (zg rfl (zk 2 rfl (zf rfl (uz _ _) (zl rfl (by exact s.ld (k:=2) rfl BF rfl) ?_))))))))))
     refine zm rfl (zc rfl (BP (n:=n) hT (s0.ae [1,1,1,1]) U.ok U.pins hw) ?_)
     rintro v h ⟨e,b,ε,hr,(⟨he,rfl,s⟩ | ⟨rfl,u,rfl,s⟩)⟩
     ·dsimp only [bringA,getA,aT] at s
      exact zk 5 rfl (WP.ret ⟨aa,_,rfl,e,b,ε,.read e b ε J I rfl g1 hr,.inl ⟨he,rfl,s.ae [4]⟩⟩)
     ·dsimp only [bringA,getA,aT] at s
      exact zk 5 rfl (WP.ret ⟨aa,_,rfl,0,b,ε,.read 0 b ε J I rfl g1 hr,.inr ⟨rfl,u,rfl,s.ae [0,4]⟩⟩)
    ·dsimp only [bringA,getA,aT] at s2
     refine zo rfl (gM rfl rfl g2) (zk 14 rfl ?_)
     have hb:=mK _ (fh g1)
     refine zc rfl (j6 hT s2 (cJ _ _) (by simp only at hb; omega)) ?_
     intro v h s
     refine zk 3 rfl (WP.ret ⟨aa,_,rfl,?_⟩)
     have s:=bM.2 ⟨dv,s.ae [3,3,0,0,0,0,0,0,0]⟩
     have s:=fC.2 ⟨nv,s.ae [4,3]⟩
     exact ⟨0,b,_,.own b J I rfl g1,.inr ⟨rfl,v,rfl,((s.ae [2,0,0,1,1,1]).del 6)⟩⟩
end
end Go.Proofs.YtconhghphklfjaaGreat.Am
