/- AtomSame: a part of its proof; conditions: its statement's. -/
import Derived.Test.YtconhghphklfjaaGreatS36
namespace Go.Proofs.YtconhghphklfjaaGreat.Am
open Go
structure fW where
 aq:HS
 oa:List (Int×Nat)
def chgF (n:Nat)(c:cm)(ρ:fW): fW :=
 if c.whole=true then { aq:=cK c.aK c.b ρ.aq,oa:=cK c.aK n ρ.oa } else
 match lookL c.aK ρ.aq with
 | none=>ρ
 | some b=>{ aq:=cK c.aK (cZ b c.pos.toNat c.b) ρ.aq,oa:=cK c.aK n ρ.oa }
abbrev BC (v:V)(n:Nat): ax:=.pu (v=.int .u64 (n:Int))
def xq (x:Nat)(ρ:fW): ax:=xs fun i:Nat=>xs fun l:bW=>xs fun k:Nat=>xs fun j:Nat=>xs fun m:bW=>xs fun g:Nat =>
 star [.pu (eS k 0 l∧(ρ.aq.map (·.1)).Nodup∧eS g 0 m∧(ρ.oa.map (·.1)).Nodup),pt x (.cells 2 [.map i,.map j] false),fo i l k,bufsA l ρ.aq,fo j m g,en BC m ρ.oa]
theorem Be (l:List Nat): cZ l 0 l=l:=by simp [cZ]
section
variable {told:dF} {h:H} {S:List ax} {X:ax} {u v:V} {b:List Nat} {x n:Nat} {c:cm} {ρ:fW}
theorem uB : Sat h (xq x ρ::S)↔∃i l k j m g,(eS k 0 l∧(ρ.aq.map (·.1)).Nodup∧eS g 0 m∧(ρ.oa.map (·.1)).Nodup) ∧
  Sat h (pt x (.cells 2 [.map i,.map j] false)::fo i l k::bufsA l ρ.aq::fo j m g::en BC m ρ.oa::S):=by
 simp only [xq,gW,dY,fg,cU,eE]
noncomputable def chR : Code:=cJ [1,1,1] ((Tryz.f107.body).getD .skip)
theorem xu (hT:W told){i k j g J:Nat}{l m:bW}(hb:b.length=512)(hc:c.Ok)(U:eS k 0 l)(h2:(ρ.aq.map (·.1)).Nodup)(h3:eS g 0 m)(h4:(ρ.oa.map (·.1)).Nodup)
 (s:Sat h (bG v b::.ct u c.b::pt x (.cells 2 [.map i,.map j] false)::fo i l k::qv c.aK l ρ.aq::fo j m g::en BC m ρ.oa::pt J (.cells 4 [.int .i64 c.aK,.int .i64 c.pos,.bool c.whole,u] false)::S))
 {E:List (Nat×V)}{Q:Ex→List (Nat×V)→H→Prop}(hE:Has E [(0,.ptr x 0),(1,.int .u64 (n:Int)),(5,.ptr J 0),(6,v)])
 (hq:∀E' h',Sat h' (xq x { aq:=cK c.aK (cZ b c.pos.toNat c.b) ρ.aq,oa:=cK c.aK n ρ.oa }::.ct u c.b::S)→Q .normal E' h'): WP ⟨Tryz.prog,told⟩ 52 chR E h Q:=by
 obtain ⟨c1,c2,c3,c4,c5,c6⟩:=hc
 obtain ⟨a,ha⟩:∃a:Nat,c.pos=a:=⟨c.pos.toNat,by omega⟩
 refine WP.has hE (zw ?_)
 have s0:=s
 have I:=cY (s.buf (k:=0) rfl).view
 have EO:=cY (s.aG (k:=1) rfl (cL _ _))
 rw [ha] at s
 have sl:=(ej (s.buf (k:=0) rfl).view (a:=a) (by omega)).1
 refine WP.drawn [ai,ai,ai,ai,ai,ai,ai] rfl (by kernel_rfl) (by kernel_rfl) ?_
 refine zM rfl (zF rfl (rN _ _) (zL rfl (s.ld (k:=7) rfl c7 rfl) (zO rfl (cC (p:=some (.int .i64 (a:Int))) (q:=none) (m:=none) (p':=some a) (q':=none) (m':=none) rfl rfl rfl rfl (by simp [gQ,bndV]) rfl rfl sl) ?_)))
 refine zF rfl (om _ _) (zL rfl (s.ld (k:=7) rfl bL rfl) (aA.any rfl rfl rfl rfl (OpR.OA rfl s (cL _ _) (by omega) (by omega) rfl rfl rfl rfl rfl) ?_))
 intro r h s
 refine aA.nil ⟨⟨aa,aa,aa,aa,aa,aa,aa,aa⟩,?_⟩
 have s0:=s
 refine WP.drawn [ai,ai,ai,ai,ai,ai,ai,ai,ai,ai,some (0,3),some (0,3),some (0,2),some (0,4),ai,ai,ai,ai,ai,ai] rfl (by kernel_rfl) (by kernel_rfl) ?_
 refine zM rfl (zN rfl (zF rfl (pK _ _) (zL rfl (s.ld (k:=2) rfl l_ rfl) (zF rfl (qd _ _) (zL rfl (s.ld (k:=7) rfl c7 rfl) (zM rfl (zN rfl (zF rfl (JU _ _) (zL rfl (s.ld (k:=2) rfl RH rfl) (zF rfl (qd _ _) (zL rfl (s.ld (k:=7) rfl c7 rfl) (zM rfl (zM rfl ?_)))))))))))))
 obtain ⟨w1,hh1,e1,s1⟩:=s.entry (j:=3) (n:=c.aK) rfl kZ bE yw
 refine aA.any rfl rfl rfl rfl (OpR.mapEntry rfl rfl rfl e1) ?_
 rintro r1 uA ⟨rfl,rfl⟩
 refine zO rfl (cz rfl rfl) (aA.gV rfl rfl rfl (OpR.entryStore rfl rfl rfl rfl (s1.entryStore (j:=3) (v:=v) rfl U)) ?_)
 intro r2 R1 s2
 obtain ⟨w3,hh3,e3,s3⟩:=s2.entry (j:=5) (n:=c.aK) rfl Tryz.underlying179 bE Vc
 refine aA.any rfl rfl rfl rfl (OpR.mapEntry rfl rfl rfl e3) ?_
 rintro r3 hr3 ⟨rfl,rfl⟩
 refine zO rfl (cz rfl rfl) (aA.gV rfl rfl rfl (OpR.entryStore rfl rfl rfl rfl (s3.entryStore (j:=5) (v:=.int .u64 (n:Int)) rfl h3)) ?_)
 intro r4 hh4 s
 refine aA.nil ⟨⟨aa,aa,aa,aa,aa,aa,aa,aa,aa,aa,fun _ _=>.inr ⟨rfl,⟨_,jv rfl (qd _ _)⟩,aW _ rfl⟩,vN (.inr ⟨rfl,⟨_,aV rfl (s0.ld (k:=7) rfl c7 rfl)⟩,aW _ rfl⟩) (.inr ⟨rfl,⟨_,aV rfl (s1.ld (k:=7) rfl c7 rfl)⟩,aW _ rfl⟩) (.inr ⟨rfl,⟨_,aV rfl (s2.ld (k:=7) rfl c7 rfl)⟩,aW _ rfl⟩),fun _ _=>.inr ⟨rfl,⟨_,bk rfl⟩,I⟩,fun _ _=>.inr ⟨rfl,⟨_,bk rfl⟩,aW _ rfl⟩,aa,aa,aa,aa,aa,aa,aa⟩,?_⟩
 have s:=QM (c:=k) (s.ae [0,3])
 have s:=(s.ae [5]).ga (B:=en BC (jz c.aK (.int .u64 (n:Int)) g m) (cK c.aK n ρ.oa)) fun a b h=>EH (f:=BC) (x:=n) (show V.int .u64 (n:Int)=_ from rfl) h
 refine hq _ _ ?_
 have e:c.pos.toNat=a:=by omega
 rw [e]
 have s:=s.del 6
 exact (uB.2 ⟨i,_,_,j,_,_,⟨yD rfl (fh _) U,iI h2,yD rfl (fh _) h3,iI h4⟩,s.ae [3,3,1,2,0]⟩)
theorem OI (U:W told)(hρ:∀e∈ρ.aq,e.2.length=512)(hc:c.Ok)(s:Sat h (xq x ρ::.ct u c.b::S)):
  Call ⟨Tryz.prog,told⟩ 107 [.ptr x 0,.int .u64 (n:Int),.agg [.int .i64 c.aK,.int .i64 c.pos,.bool c.whole,u]] h fun v h'=>v=.bD []∧Sat h' (xq x (chgF n c ρ)::.ct u c.b::S):=by
 obtain ⟨i,l,k,j,m,g,⟨h1,h2,h3,h4⟩,s⟩:=uB.1 s
 have hu:=(s.aG (k:=5) rfl (cL _ _)).cells
 have EO:=cY (s.aG (k:=5) rfl (cL _ _))
 refine Call.of_wp (U.free _ rfl) Tryz.func107 rfl rfl (zg rfl (aB.cO s rfl rfl rfl (gw rfl (by simp only [V.cells,iZ,jH,hu.2]; rfl)) ?_))
 intro p5 h s
 dsimp only [V.cells] at s
 dsimp only [List.length_cons,List.length_nil,Nat.reduceAdd] at s
 refine zk 2 rfl ?_
 have e2:=s.RN (n:=c.aK) (j:=2) rfl kZ bE yw
 have I:c.whole=true→c.pos=0∧c.b.length=512:=hc.2.2.2.2.2
 have lK:c.b.length≤512:=by have:=hc.2.2.1; have:=hc.2.2.2.2.1; omega
 have s0:=s
 rcases hle:lookE c.aK l with _ | u0
 ·skip
  rw [hle] at e2
  obtain ⟨J,s⟩:=OG hle (s.ae [3])
  have hX:=s
  have s:=s0
  refine WP.drawn [ai,ai,ai,ai,ai,ai,ai,ai,ai,ai,ai,ai] rfl (by kernel_rfl) (by kernel_rfl) ?_
  refine zM rfl (zN rfl (zF rfl (pK _ _) (zL rfl (s.ld (k:=1) rfl l_ rfl) (zF rfl (qd _ _) (zL rfl (s.ld (k:=0) rfl c7 rfl) (zO rfl (gG rfl rfl e2) (zM rfl (zO rfl (cz rfl rfl) (zO rfl (cz rfl rfl) (zA rfl (zA rfl ?_)))))))))))
  refine aA.nil ⟨⟨aa,aa,aa,aa,aa,aa,aa,aa,aa,aa,aa,aa,aa⟩,?_⟩
  refine zw (WP.block (zg rfl (zf rfl (yy _ _) ?_)))
  by_cases hw:c.whole=true
  ·skip
   refine zt rfl (aV rfl (s.ld (k:=0) rfl jV rfl)) (hw) (zk 4 rfl (zf rfl (om _ _) (zl rfl (s.ld (k:=0) rfl bL rfl) (zc rfl (j4 U (hX.ae [6]) (cL _ _) (by omega)) ?_))))
   intro v h s
   dsimp only [aU,bringA] at s
   refine za rfl (zv ?_)
   refine xu (n:=n) U (I hw).2 hc h1 h2 h3 h4 (s.ae [0,0,2,2,0,1,1,0]) ⟨rfl,rfl,rfl,rfl,aa⟩ (fun E' h' s' => ?_)
   have e:cZ c.b c.pos.toNat c.b=c.b:=by rw [(I hw).1]; exact Be _
   rw [e] at s'
   refine ⟨aa,_,rfl,rfl,?_⟩
   rw [chgF,aj hw]
   exact s'
  ·skip
   refine zh rfl (aV rfl (s.ld (k:=0) rfl jV rfl)) (by simpa using hw) ?_
   refine zk 6 rfl (zo rfl (dA rfl rfl) (zk 3 rfl (WP.ret ⟨aa,_,rfl,?_⟩)))
   have e:chgF n c ρ=ρ:=by rw [chgF,af hw,J]
   rw [e]
   exact ⟨rfl,(uB.2 ⟨i,l,k,j,m,g,⟨h1,h2,h3,h4⟩,s.drop⟩)⟩
 ·skip
  rw [hle] at e2
  obtain ⟨y,J,s⟩:=OH hle (s.ae [3])
  have hX:=s
  have s:=s0
  have abo:=cY (hX.buf (k:=0) rfl).view
  have hy:y.length=512:=hρ _ (fe J)
  refine WP.drawn [ai,ai,ai,ai,ai,ai,ai,ai,ai,ai,ai,ai] rfl (by kernel_rfl) (by kernel_rfl) ?_
  refine zM rfl (zN rfl (zF rfl (pK _ _) (zL rfl (s.ld (k:=1) rfl l_ rfl) (zF rfl (qd _ _) (zL rfl (s.ld (k:=0) rfl c7 rfl) (zO rfl (gG rfl rfl e2) (zM rfl (zO rfl (cz rfl rfl) (zO rfl (cz rfl rfl) (zA rfl (zA rfl ?_)))))))))))
  refine aA.nil ⟨⟨aa,aa,aa,aa,aa,aa,aa,aa,aa,aa,aa,aa,aa⟩,?_⟩
  refine zw (WP.block (zg rfl (zf rfl (yy _ _) ?_)))
  by_cases hw:c.whole=true
  ·skip
   refine zt rfl (aV rfl (s.ld (k:=0) rfl jV rfl)) (hw) (zk 4 rfl (zf rfl (om _ _) (zl rfl (s.ld (k:=0) rfl bL rfl) (zc rfl (j4 U ((hX.drop).ae [6]) (cL _ _) (by omega)) ?_))))
   intro v h s
   dsimp only [aU,bringA] at s
   refine za rfl (zv ?_)
   refine xu (n:=n) U (I hw).2 hc h1 h2 h3 h4 (s.ae [0,0,2,2,0,1,1,0]) ⟨rfl,rfl,rfl,rfl,aa⟩ (fun E' h' s' => ?_)
   have e:cZ c.b c.pos.toNat c.b=c.b:=by rw [(I hw).1]; exact Be _
   rw [e] at s'
   refine ⟨aa,_,rfl,rfl,?_⟩
   rw [chgF,aj hw]
   exact s'
  ·skip
   refine zh rfl (aV rfl (s.ld (k:=0) rfl jV rfl)) (by simpa using hw) ?_
   refine za rfl (zv (zj rfl (zg rfl (zm rfl (zo rfl (dA rfl rfl) (za rfl (zv (zj rfl (WP.skip ?_)))))))))
   refine xu (n:=n) U hy hc h1 h2 h3 h4 (hX.ae [0,6,2,2,0,1,1,0]) ⟨rfl,rfl,rfl,rfl,aa⟩ (fun E' h' s' => ?_)
   refine ⟨aa,_,rfl,rfl,?_⟩
   rw [chgF,af hw,J]
   exact s'
end
def szB : List cg→Nat
 | []=>0
 | r::l=>r.len+szB l
theorem ie : ∀ {rs:List cg} {n:Nat},(logB n rs).length=szB rs:=by
 intro rs
 induction rs with
 | nil=>intro n; rfl
 | cons r rs I=>intro n; simp only [logB,szB,bC,rX,I]; rfl
theorem v_ {x y:List cg}: szB (x++y)=szB x+szB y:=by
 induction x with
 | nil=>simp [szB]
 | cons r x I=>simp only [fg,szB,I]; omega
theorem xw {y:List cg}: ∀ {x:List cg} {n:Nat},logB n (x++y)=logB n x++logB (n+szB x) y:=by
 intro x
 induction x with
 | nil=>intro n; simp [logB,szB]
 | cons r x I=>intro n; simp only [fg,logB,szB,I,bP,gv]
theorem HT {y:List cg}: ∀ {x:List cg} {a:Nat},lG a (x++y)=lG a x++lG (a+szB x) y:=by
 intro x
 induction x with
 | nil=>intro a; simp [lG,szB]
 | cons r x I=>intro a; simp only [fg,lG,szB,I,gv]
theorem Ff : ∀ {rs:List cg} {a:Nat},(lG a rs).Pairwise (· < ·)∧∀s∈lG a rs,a≤s∧s<a+szB rs:=by
 intro rs
 induction rs with
 | nil=>intro a; exact ⟨List.Pairwise.nil,by simp [lG]⟩
 | cons r rs J =>
  intro a
  obtain ⟨U,I⟩:=J (a:=a+r.len)
  have h8:8≤r.len:=by rw [cg.len]; omega
  simp only [lG,szB,oU,eX]
  refine ⟨⟨fun s hs=>by have:=I s hs; omega,U⟩,?_⟩
  rintro s (rfl | hs)
  ·omega
  ·have:=I s hs; omega
theorem QN : ∀ {rs:List cg} {a:Nat},(lG a rs).length=rs.length:=by
 intro rs
 induction rs with
 | nil=>intro a; rfl
 | cons r rs I=>intro a; simp only [lG,bj,I]
theorem XC : ∀ {rs:List cg},rs.length*8≤szB rs:=by
 intro rs
 induction rs with
 | nil=>simp
 | cons r rs I=>have:8≤r.len:=(by rw [cg.len]; omega); simp only [szB,bj]; omega
theorem Kv {base aD:Nat}{rs:List cg}(I:base+szB rs≤1099511627776)(J:szB rs≤16777216)(U:aD≤1099511627776): (iD base aD rs).Ok:=by
 have h4:=XC (rs:=rs)
 refine ⟨?_,?_,?_,(Ff (a:=0)).1,?_,?_,U⟩
 ·show base+(logB base rs).length≤_; rw [ie]; exact I
 ·show (lG 0 rs).length≤_; rw [QN]; omega
 ·intro s hs
  have:=(Ff (a:=0) (rs:=rs)).2 s hs
  show s<(logB base rs).length
  rw [ie]; omega
 ·exact aL _
 ·show (logB base rs).length≤_; rw [ie]; exact J
theorem QO {base aD:Nat}{dg fL:List cg}{r:cg}: (iD base aD (dg++r::fL)).hasB (base+szB dg)=true:=by
 rw [Lg.hasB,sQ]
 refine ⟨szB dg,?_,by simp [iD]⟩
 show szB dg∈lG 0 (dg++r::fL)
 rw [HT,dU]
 exact List.mem_append.2 (.inr bp)
def CZ (n:Nat)(aP:List cm)(ρ:fW): fW:=aP.foldl (fun ρ c=>chgF n c ρ) ρ
def redoL : Nat→List cg→fW→fW
 | _,[],ρ=>ρ
 | n,r::l,ρ=>redoL (n+r.len) l (CZ n r.aP ρ)
theorem Fg {α:Type}{n:Int}{a:α}: ∀ {l:List (Int×α)} {e:Int×α},e∈cK n a l→e=(n,a)∨e∈l:=CV
structure fW.Ok (ρ:fW): Prop where
 len:∀e∈ρ.aq,e.2.length=512
 low:∀k∈ρ.aq.map (·.1),(0:Int)≤k∧k<65536
 dup:(ρ.aq.map (·.1)).Nodup
theorem Kw {n:Nat}{c:cm}{ρ:fW}(h:ρ.Ok)(I:c.Ok): (chgF n c ρ).Ok:=by
 have U:c.whole=true→c.pos=0∧c.b.length=512:=I.2.2.2.2.2
 have key:∀b:List Nat,b.length=512→∀L,(fW.mk (cK c.aK b ρ.aq) L).Ok:=fun b hb L=>by
  refine ⟨fun e he => ?_,fun k hk => ?_,iI h.dup⟩
  ·rcases Fg he with rfl | he
   ·exact hb
   ·exact h.len e he
  ·rcases oH.1 hk with rfl | hk
   ·exact ⟨I.1,I.2.1⟩
   ·exact h.low k hk
 unfold chgF
 split
 ·rename_i hw
  exact key _ (U hw).2 _
 ·split
  ·exact h
  ·rename_i b hb
   have J:=h.len _ (fe hb)
   simp only at J
   have:=I.2.2.1
   have:=I.2.2.2.2.1
   refine key _ ?_ _
   rw [iG (by omega),J]
theorem HU {n:Nat}: ∀ {aP:List cm} {ρ:fW},ρ.Ok→(∀c∈aP,c.Ok)→(CZ n aP ρ).Ok:=by
 intro aP
 induction aP with
 | nil=>intro ρ h _; exact h
 | cons c aP J=>intro ρ h I; exact J (Kw h (I c bp)) (fun x U=>I x (bl _ U))
theorem cg.Ok.aP {r:cg}(h:r.Ok): ∀c∈r.aP,c.Ok:=by
 have:=h.good
 simp only [dM,aY,oY,eA] at this
 exact this.2
theorem BD : ∀ {rs:List cg} {n:Nat} {ρ:fW},ρ.Ok→(∀r∈rs,r.Ok)→(redoL n rs ρ).Ok:=by
 intro rs
 induction rs with
 | nil=>intro n ρ h _; exact h
 | cons r rs J=>intro n ρ h I; exact J (HU h (I r bp).aP) (fun x U=>I x (bl _ U))
def nY (ρ:fW)(k:Int): Nat:=(lookL k ρ.oa).getD 0
def againW (ρ:fW): List Int→Dk→Int×Dk
 | [],δ=>(0,δ)
 | k::l,δ =>
  match lookL k ρ.aq with
  | some b=>if bU b=true∧k<δ.aq.length then (if (δ.bJ k (cM b (nY ρ k))).1≠0 then δ.bJ k (cM b (nY ρ k)) else againW ρ l (δ.bJ k (cM b (nY ρ k))).2) else againW ρ l δ
  | none=>againW ρ l δ
def mj (ρ:fW)(δ:Dk): Int×Dk :=
 if (againW ρ (aJ ρ.aq) δ).1≠0 then againW ρ (aJ ρ.aq) δ else if ρ.aq=[] then (0,(againW ρ (aJ ρ.aq) δ).2) else (againW ρ (aJ ρ.aq) δ).2.dQ
section
variable {told:dF} {h:H} {S:List ax} {X:ax} {ch fv v op dv:V} {cs:List V} {a p q r x n base aD c0:Nat} {ρ:fW} {δ:Dk}
noncomputable def agI : Code:=cJ [1,1,1,0,1,0,0,0,1,1,0,1,0,0] ((Tryz.f62.body).getD .skip)
theorem OJ (hT:W told){aP:List cm}(qx:∀c∈aP,c.Ok){av nv:V}: ∀(j i:Nat) (ρ:fW) (h:H) (E:List (Nat×V)) (Q:Ex→List (Nat×V)→H→Prop),i+j=aP.length→aP.length<4294967296→ρ.Ok →
  Sat h (xq x ρ::.arr 4 ch cs::cT cs aP::S) →
  Has E [(0,av),(5,.ptr x 0),(6,.fn (.func 107) [.ptr x 0] []),(7,.int .u64 (n:Int)),(9,nv),(38,ch),(39,.int .i64 aP.length),(40,.int .i64 i)] →
  (∀E' h',Has E' [(0,av),(5,.ptr x 0),(6,.fn (.func 107) [.ptr x 0] []),(9,nv)]→Sat h' (xq x (CZ n (aP.drop i) ρ)::.arr 4 ch cs::cT cs aP::S)→Q (.exit 2) E' h') →
  WP ⟨Tryz.prog,told⟩ 110 (.loop agI) E h Q:=by
 intro j
 induction j with
 | zero =>
  intro i ρ h E Q hi hl I s hE hq
  refine WP.loop (WP.has hE (zg rfl (zh rfl (ag rfl rfl bx) (by simp; omega) ?_)))
  exact zk 3 rfl (WP.exit (hq _ _ ⟨rfl,rfl,rfl,rfl,aa⟩ (by rw [sK (by omega)]; exact s)))
 | succ j ih =>
  intro i ρ h E Q hi hl I s hE hq
  have hc:aP[i]?=some (aP[i]'(by omega)):=bg _
  generalize (aP[i]'(by omega))=c at hc
  have U:=qx c (bq hc)
  have J:aP.drop i=c::aP.drop (i+1):=by
   obtain ⟨h1,rfl⟩:=List.getElem?_eq_some_iff.1 hc
   exact kM h1
  obtain ⟨id,off,u,e1,e2,u1,u2,u3,s⟩:=G2 (s.ae [1,1]) hc
  dsimp only [aU,bringA] at s
  refine WP.loop (WP.has hE (zg rfl (zt rfl (ag rfl rfl bx) (by simp; omega) ?_)))
  refine zk 5 rfl (WP.block (zg rfl (zo rfl (dG (r:=.ptr id off) rfl rfl e1) (zl rfl e2 ?_))))
  refine aB.cO s rfl rfl rfl (cH qV) (fun Vv h s => ?_)
  dsimp only [V.cells,List.length_cons,List.length_nil,Nat.reduceAdd] at s
  refine zS rfl (s.gX (j:=0) rfl r9 rfl (by simp only [iZ,jH,u2]; rfl)) ?_
  rintro h s
  dsimp only [setA] at s
  refine zk 4 rfl (zl rfl (s.fE (k:=0) rfl Lc r9) (zc rfl (OI (n:=n) hT I.len U (s.ae [4,1])) ?_))
  rintro v h ⟨rfl,s⟩
  dsimp only [aU,bringA] at s
  refine zv (zr rfl (zb rfl (by exact bO (aT (by omega) (by omega))) ?_))
  refine zm rfl (zv ?_)
  have s:=(s.ae [0,2,2]).del 3
  have s:=s.del 3
  refine ih (i+1) (chgF n c ρ) _ _ Q (by omega) hl (Kw I U) s ⟨rfl,rfl,rfl,rfl,rfl,rfl,rfl,rfl,aa⟩ (fun E' h' gq s'=>hq E' h' gq ?_)
  rw [J]
  exact s'
theorem HV (U:WR told){dg fL:List cg}{r:cg}(J:(iD base aD (dg++r::fL)).Ok)(I:r.Ok)(s:Sat h (bf q p (iD base aD (dg++r::fL))::S)):
  Call ⟨Tryz.prog,told⟩ 20 [.ptr q 0,.int .u64 ((base+szB dg:Nat):Int)] h fun v h'=>∃dt ch cs,v=.bD [.agg (iy r.kd r.tx r.pv r.nx dt ch),.int .u64 ((base+szB dg+r.len:Nat):Int),.int .i64 0] ∧
   Sat h' (bf q p (iD base aD (dg++r::fL))::bG dt r.data::.arr 4 ch cs::cT cs r.aP::S):=by
 refine (Ol (n:=base+szB dg) (a:=szB dg) (pre:=logB base dg) (rest:=logB (base+szB dg+r.len) fL) U I.good I.kd I.rd rfl I.len ie ?_ rfl QO J s).mono fun v h' hx => ?_
 ·show logB base (dg++r::fL)=_
  rw [xw,logB]
  rfl
 ·have e:base+szB dg+r.len=base+szB dg+8+(dm r.kd r.tx r.pv r.nx r.data r.aP).length:=by rw [cg.len,cg.bd]; omega
  rw [e]
  exact hx
noncomputable def agO : Code:=cJ [1,1,1,0,1,0,0] ((Tryz.f62.body).getD .skip)
theorem L3 (hT:WR told){rs:List cg}{wv:Nat}(mu:∀r∈rs,r.Ok)(I:(iD base aD rs).Ok): ∀(fL dg:List cg) (ρ:fW) (h:H) (E:List (Nat×V)) (Q:Ex→List (Nat×V)→H→Prop),rs=dg++fL→ρ.Ok →
  Sat h (xq x ρ::pt a (.cells 6 (qn a p q r op dv wv) false)::bf q p (iD base aD rs)::S) →
  Has E [(0,.ptr a 0),(5,.ptr x 0),(6,.fn (.func 107) [.ptr x 0] []),(7,.int .u64 ((base+szB dg:Nat):Int))] →
  (∀E' h',Has E' [(0,.ptr a 0),(5,.ptr x 0)]→Sat h' (xq x (redoL (base+szB dg) fL ρ)::pt a (.cells 6 (qn a p q r op dv wv) false)::bf q p (iD base aD rs)::S)→Q (.exit 0) E' h') →
  WP ⟨Tryz.prog,told⟩ 110 (.loop agO) E h Q:=by
 have hW:=hT.w
 intro fL
 induction fL with
 | nil =>
  intro dg ρ h E Q he J s U hq
  refine WP.loop (WP.has U ?_)
  have s:=s.ae [1,1,0]
  dsimp only [qn,bringA,getA,aU] at s
  have fc:=I.size
  have hn:base+szB dg=(iD base aD rs).base+(iD base aD rs).b.length:=by
   show _=base+(logB base rs).length
   rw [ie,he,bT]
  refine WP.block (zK 4 rfl (zf rfl (kY _ _) (zl rfl (s.ld (k:=0) rfl nj rfl) (zm rfl (zc rfl (CO (n:=base+szB dg) hW (s.ae [1]) I (by omega) (.inl hn)) ?_)))))
  rintro v h ⟨e,he0,rfl,s⟩
  refine zk 4 rfl ?_
  refine aB.cO s rfl rfl rfl (cH qU) (fun p8 h s => ?_)
  dsimp only [V.cells,List.length_cons,List.length_nil,Nat.reduceAdd,aU,bringA] at s
  refine zS rfl (s.gX (j:=0) rfl gy rfl rfl) (fun h s => ?_)
  dsimp only [setA] at s
  refine zk 7 rfl (zt rfl (ag rfl rfl aX) (by simp; exact he0) ?_)
  exact zk 2 rfl (WP.exit (hq _ _ ⟨rfl,rfl,aa⟩ ((s.drop).ae [2,1,0])))
 | cons y fL ih =>
  intro dg ρ h E Q he J s U hq
  subst he
  have hy:=mu y (by simp)
  refine WP.loop (WP.has U ?_)
  have s:=s.ae [1,1,0]
  dsimp only [qn,bringA,getA,aU] at s
  refine WP.block (zK 4 rfl (zf rfl (kY _ _) (zl rfl (s.ld (k:=0) rfl nj rfl) (zm rfl (zc rfl (HV (dg:=dg) (fL:=fL) (r:=y) hT I hy (s.ae [1])) ?_)))))
  rintro v h ⟨dt,ch,cs,rfl,s⟩
  dsimp only [aU,bringA] at s
  have jM:=(s.buf (k:=1) rfl).view.cells
  have me:=s.kF (j:=2) rfl
  have gn:[V.int .i64 (y.kd:Int),V.int .u64 (y.tx:Int),V.int .u64 (y.pv:Int),V.int .u64 (y.nx:Int),dt,ch].all storable=true:=mP jM.2 me.2.1
  refine zk 4 rfl ?_
  refine aB.cO s rfl rfl rfl (cH qU) (fun p8 h s => ?_)
  dsimp only [V.cells,List.length_cons,List.length_nil,Nat.reduceAdd] at s
  refine zS rfl (s.gX (j:=0) rfl gy rfl gn) ?_
  rintro h s
  dsimp only [setA] at s
  refine zk 7 rfl (zh rfl (ag rfl rfl aX) (rfl) (zk 6 rfl (zf rfl (mO _ _) (zl rfl (s.ld (k:=0) rfl tW rfl) (zo rfl (a_ rfl rfl rfl (s.vW (j1:=3) (j2:=4) rfl rfl iJ)) (zk 2 rfl (WP.block ?_)))))))
  have s:=s.ae [6,3,3,3,1]
  dsimp only [bringA,getA,aU] at s
  refine OJ (n:=base+szB dg) hW hy.aP y.aP.length 0 ρ h _ _ (by omega) (by have:=hy.rd.many; omega) J s ⟨rfl,rfl,rfl,rfl,rfl,rfl,rfl,rfl,aa⟩ (fun E h U s => ?_)
  rw [dS] at s
  refine WP.has U (zr rfl (zk 2 rfl (zv ?_)))
  have s:=(((s.del 6).del 5).ae [0,2,2]).del 3
  have s:=s.del 3
  refine ih (dg++[y]) (CZ (base+szB dg) y.aP ρ) _ _ Q (by simp) (HU J hy.aP) s ⟨rfl,rfl,rfl,?_,aa⟩ (fun E' h' gq s'=>hq E' h' gq ?_)
  ·rw [v_]
   show some (V.int .u64 ((base+szB dg+y.len:Nat):Int))=_
   rw [show base+(szB dg+szB [y])=base+szB dg+y.len by simp only [szB]; omega]
  ·rw [redoL,show base+szB dg+y.len=base+szB (dg++[y]) by rw [v_]; simp only [szB]; omega]
   exact s'
structure oP (δ:Dk)(m:Nat): Prop where
 ok:δ.Ok
 wait:δ.waiting.length+m≤268435456
 now:∀e∈δ.now,0≤e.1∧e.1<δ.aq.length
theorem oP.less {δ:Dk}{m:Nat}(h:oP δ (m+1)): oP δ m:=⟨h.ok,by have:=h.wait; omega,h.now⟩
theorem oP.write {δ:Dk}{m:Nat}{k:Int}{b:List Nat}(h:oP δ (m+1))(h0:0≤k)(h1:k<δ.aq.length): oP (δ.bJ k b).2 m∧(δ.bJ k b).2.aq=δ.aq:=by
 have hw:=h.wait
 have I:=h.ok.bJ (n:=k) (b:=b)
 unfold Dk.bJ at I ⊢
 split at I
 ·rename_i J
  rw [aj J]
  exact ⟨⟨I,by simp only; omega,h.now⟩,rfl⟩
 ·rename_i J
  rw [af J]
  split at I
  ·rename_i U
   rw [aj U]
   exact ⟨⟨I,by simp only; omega,h.now⟩,rfl⟩
  ·rename_i U
   rw [af U]
   split at I
   ·rename_i h3
    rw [aj h3]
    exact ⟨⟨I,by show δ.waiting.length+m≤_; omega,h.now⟩,rfl⟩
   ·rename_i h3
    rw [af h3]
    refine ⟨⟨I,?_,fun e he => ?_⟩,rfl⟩
    ·show (δ.waiting++[(k.toNat,b)]).length+m≤_
     simp only [bC,bj,bY]; omega
    ·rcases Fg he with rfl | he
     ·exact ⟨h0,h1⟩
     ·exact h.now e he
noncomputable def agS : Code:=cJ [1,1,1,1,0,1,0,0] ((Tryz.f62.body).getD .skip)
theorem Jn (hT:W told){ks:List Int}{kv:V}{i0 j0 wv:Nat}(NM:ks.length≤65536)(wU:∀k∈ks,0≤k)(uR:∀k∈ks,(lookL k ρ.aq).isSome=true)(hlen:∀e∈ρ.aq,e.2.length=512): ∀(j i:Nat) (δ:Dk) (h:H) (E:List (Nat×V)) (Q:Ex→List (Nat×V)→H→Prop),i+j=ks.length→oP δ j →
  Sat h (pt x (.cells 2 [.map i0,.map j0] false)::iW (fun v b=>.ct v b) (.map i0) ρ.aq::iW BC (.map j0) ρ.oa::.arr 1 kv (eG ks)::pt a (.cells 6 (qn a p q r op dv wv) false)::aC p δ::S) →
  Has E [(0,.ptr a 0),(5,.ptr x 0),(55,kv),(56,.int .i64 ks.length),(57,.int .i64 i)] →
  (∀E' h',(againW ρ (ks.drop i) δ).1≠0→look E' 4=some (.int .i64 (againW ρ (ks.drop i) δ).1)→Sat h' (pt a (.cells 6 (qn a p q r op dv wv) false)::aC p (againW ρ (ks.drop i) δ).2::S)→Q .ret E' h') →
  (∀E' h',(againW ρ (ks.drop i) δ).1=0→oP (againW ρ (ks.drop i) δ).2 0→Has E' [(0,.ptr a 0),(5,.ptr x 0)]→Sat h' (pt x (.cells 2 [.map i0,.map j0] false)::iW (fun v b=>.ct v b) (.map i0) ρ.aq::pt a (.cells 6 (qn a p q r op dv wv) false)::aC p (againW ρ (ks.drop i) δ).2::S)→Q (.exit 4) E' h') →
  WP ⟨Tryz.prog,told⟩ 110 (.loop agS) E h Q:=by
 intro j
 induction j with
 | zero =>
  intro i δ h E Q hi I s hE J U
  rw [sK (by omega)] at J U
  refine WP.loop (WP.has hE (zg rfl (zh rfl (ag rfl rfl bx) (by simp; omega) ?_)))
  exact zk 3 rfl (WP.exit (U _ _ rfl I ⟨rfl,rfl,aa⟩ ((s.ae [0,0,2,2]).del 5 |>.del 4)))
 | succ j ih =>
  intro i δ h E Q hi I s hE J U
  have hn:ks[i]?=some (ks[i]'(by omega)):=bg _
  generalize (ks[i]'(by omega))=k at hn
  have YZ:=bq hn
  have Ug:=wU k YZ
  have lQ:ks.drop i=k::ks.drop (i+1):=by
   obtain ⟨J,rfl⟩:=List.getElem?_eq_some_iff.1 hn
   exact kM J
  obtain ⟨b,hb⟩:=Option.isSome_iff_exists.1 (uR k YZ)
  have xD:b.length=512:=hlen _ (fe hb)
  rw [lQ,againW,hb] at J U
  simp only at J U
  have hc:(eG ks)[i]?=some (.int .i64 k):=by simp [eG,hn]
  obtain ⟨id,off,e1,e2⟩:=kR s (k:=3) rfl hc eu jK
  refine WP.loop (WP.has hE (zg rfl (zt rfl (ag rfl rfl bx) (by simp; omega) ?_)))
  refine zk 5 rfl (WP.block (zg rfl (zo rfl (dG (r:=.ptr id off) rfl rfl e1) (zl rfl (e2 _ c7) (zk 3 rfl ?_)))))
  rcases my (n:=k) (fun _ _=>aE.ct _ _) (s.ae [1]) kZ bE yw with ⟨hl,_⟩ | ⟨u,b',hl,_,f2,s⟩
  ·rw [hb] at hl; cases hl
  rw [hb] at hl
  injection hl with hl
  subst hl
  dsimp only [qn,aU,bringA] at s
  obtain ⟨f4,s⟩:eY Tryz.prog h 179 (.map j0) (.int .i64 k) false=some (.int .u64 (nY ρ k:Int))∧Sat h (iW BC (.map j0) ρ.oa::.ct u b::iW (fun v b=>.ct v b) (.map i0) ρ.aq::pt x (.cells 2 [.map i0,.map j0] false)::.arr 1 kv (eG ks)::pt a (.cells 6 (qn a p q r op dv wv) false)::aC p δ::S):=by
   have s:=s.ae [3,0,0,0]
   rcases my (n:=k) (fun _ _=>aE.pu _) s Tryz.underlying179 bE Vc with ⟨hl,_,f⟩ | ⟨w,y,hl,_,f,s⟩
   ·exact ⟨by rw [f,nY,hl]; rfl,s⟩
   ·obtain ⟨rfl,s2⟩:=eE.1 s
    exact ⟨by rw [f,nY,hl]; rfl,s2⟩
  have s:=s.ae [3,4,1]
  dsimp only [qn,bringA,getA,aU] at s
  have EO:=cY (s.aG (k:=2) rfl (cL _ _))
  refine WP.drawn [ai,ai,ai,ai,ai,ai,ai,ai,ai,ai,ai,ai,ai,ai,ai,ai,ai,ai] rfl (by kernel_rfl) (by kernel_rfl) ?_
  refine zM rfl (zN rfl (zF rfl (pK _ _) (zL rfl (s.ld (k:=0) rfl l_ rfl) (zM rfl (zO rfl (gG rfl rfl f2) (zM rfl (zN rfl (zF rfl (JU _ _) (zL rfl (s.ld (k:=0) rfl RH rfl) (zM rfl (zO rfl (gG rfl rfl f4) (aA.any rfl rfl rfl rfl (OpR.call rfl rfl rfl rfl (J0 (n:=nY ρ k) hT (s.ae [2]) (cL _ _) (by omega))) ?_))))))))))))
  rintro v h (⟨hg,u2,rfl,s⟩ | ⟨hg,rfl,s⟩)
  ·skip
   dsimp only [aU,bringA] at s
   refine zM rfl (zO rfl (cz rfl rfl) (zO rfl (cz rfl rfl) (zA rfl (zA rfl ?_))))
   refine aA.nil ⟨⟨aa,aa,aa,aa,aa,aa,aa,aa,aa,aa,aa,aa,aa,aa,aa,aa,aa,aa,aa⟩,?_⟩
   refine zK 4 rfl (zh rfl (ag rfl rfl aX) (rfl) (zk 4 rfl (zf rfl (rO _ _) (zl rfl (s.ld (k:=3) rfl jQ rfl) (zc rfl (Bu hT (s.ae [7])) ?_)))))
   rintro v h' ⟨rfl,rfl⟩
   by_cases hp:k<δ.aq.length
   ·skip
    rw [aj ⟨hg,hp⟩] at J U
    have lJ:=(pR (n:=nY ρ k) xD).2.1
    have J6:=I.wait
    have hw:=I.write (k:=k) (b:=cM b (nY ρ k)) Ug hp
    refine zh rfl (ag rfl rfl ng) (by simp; omega) ?_
    refine zk 8 rfl (zf rfl (rO _ _) (zl rfl (s.ld (k:=3) rfl jQ rfl) (zk 2 rfl (zc rfl (J2 hT (s.ae [7,0]) (bI _ _) (by omega) I.ok.aI (by omega)) ?_))))
    rintro v h ⟨rfl,s⟩
    dsimp only [aU,bringA] at s
    by_cases h0:(δ.bJ k (cM b (nY ρ k))).1=0
    ·rw [af (not_not_intro h0)] at J U
     rw [h0]
     refine za rfl (zv (zg rfl (zm rfl (zh rfl (ag rfl rfl aX) (rfl) (zv (zj rfl (WP.skip (zr rfl (zb rfl (by exact bO (aT (by omega) (by omega))) ?_)))))))))
     refine zm rfl (zv ?_)
     have s:=(s.ae [3,5,4,4,3,0]).del 6
     have s:=s.del 6
     dsimp only [bringA,getA,aU] at s
     exact ih (i+1) _ _ _ Q (by omega) hw.1 s ⟨rfl,rfl,rfl,rfl,rfl,aa⟩ J U
    ·skip
     rw [aj h0] at J U
     refine zk 5 rfl (zt rfl (ag rfl rfl aX) (by simpa using h0) ?_)
     refine zk 7 rfl (WP.ret ?_)
     have s:=(s.ae [4,0]).del 2
     exact J _ _ h0 rfl ((((s.del 2).del 2).del 2).del 2 |>.del 2)
   ·skip
    rw [af (fun q=>hp q.2)] at J U
    refine zt rfl (ag rfl rfl ng) (by simp; omega) ?_
    refine zk 3 rfl (WP.exit (zr rfl (zb rfl (by exact bO (aT (by omega) (by omega))) ?_)))
    refine zm rfl (zv ?_)
    have s:=(s.ae [2,4,3,3,2,2]).del 6
    have s:=s.del 6
    dsimp only [bringA,getA,aU] at s
    exact ih (i+1) _ _ _ Q (by omega) I.less s ⟨rfl,rfl,rfl,rfl,rfl,aa⟩ J U
  ·skip
   rw [af (fun q=>by rw [hg] at q; cases q.1)] at J U
   dsimp only [aU,bringA] at s
   refine zM rfl (zO rfl (cz rfl rfl) (zO rfl (cz rfl rfl) (zA rfl (zA rfl ?_))))
   refine aA.nil ⟨⟨aa,aa,aa,aa,aa,aa,aa,aa,aa,aa,aa,aa,aa,aa,aa,aa,aa,aa,aa⟩,?_⟩
   refine zK 4 rfl (zt rfl (ag rfl rfl aX) (rfl) (zk 11 rfl (WP.exit (zr rfl (zb rfl (by exact bO (aT (by omega) (by omega))) ?_)))))
   refine zm rfl (zv ?_)
   have s:=(s.ae [1,3,2,2,1,1]).del 6
   exact ih (i+1) _ _ _ Q (by omega) I.less s ⟨rfl,rfl,rfl,rfl,rfl,aa⟩ J U
end
def fW.none : fW:=⟨[],[]⟩
theorem AF : fW.none.Ok:=⟨fun e h=>(by cases h),fun k h=>(by cases h),ki⟩
theorem fW.Ok.few {ρ:fW}(h:ρ.Ok): ρ.aq.length≤65536:=by
 have:=uX 65536 _ h.dup (fun n I=>by have:=h.low n I; omega)
 simpa using this
theorem HW {α:Type}{m:List (Int×α)}: (aJ m).length=m.length:=by rw [aJ,(er _).length_eq,d_]
theorem BE {α:Type}{m:List (Int×α)}{k:Int}: k∈aJ m↔k∈m.map (·.1):=(er _).mem_iff
section
variable {told:dF} {h:H} {S:List ax} {op:V} {data:List Nat} {a p q r base aD c0:Nat} {δ:Dk}
theorem QS (hT:W4 told){rs dg fL:List cg}(he:rs=dg++fL)(mu:∀r∈rs,r.Ok)(D5:(iD base aD rs).Ok)(J:oP δ 65536)(s:Sat h (cx a p q r op data c0::bf q p (iD base aD rs)::aC p δ::S)):
  Call ⟨Tryz.prog,told⟩ 62 [.ptr a 0,.int .u64 ((base+szB dg:Nat):Int)] h fun v h' =>
   v=.int .i64 (mj (redoL (base+szB dg) fL fW.none) δ).1∧Sat h' (cx a p q r op data c0::bf q p (iD base aD rs)::aC p (mj (redoL (base+szB dg) fL fW.none) δ).2::S):=by
 have hW:=hT.w.w.w
 have I:(redoL (base+szB dg) fL fW.none).Ok:=BD AF (fun r hr=>mu r (by rw [he]; exact List.mem_append.2 (.inr hr)))
 obtain ⟨dv,s⟩:=bM.1 s
 refine Call.of_wp (hW.free _ rfl) Tryz.func62 rfl rfl (zK 6 rfl ?_)
 refine aB.yu s rfl rfl rfl rfl (fun p18 h s => ?_)
 refine aB.yu s rfl rfl rfl rfl (fun p19 h s => ?_)
 refine zo rfl (cX rfl (by rw [RJ]; rfl)) ?_
 refine aB.cO s rfl rfl rfl (gw rfl rfl) (fun Vx h s => ?_)
 refine zk 5 rfl (zo rfl (Al rfl rfl) (zk 8 rfl (WP.block ?_)))
 have s:=(s.gx (φ:=True) aa).gx (φ:=True) aa
 have s:=uB (ρ:=fW.none).2 ⟨_,[],0,_,[],0,⟨aa,ki,aa,ki⟩,s.ae [2,3,0,1,0]⟩
 refine L3 hT.wr mu D5 fL dg fW.none h _ _ he AF (s.ae [0,0,1]) ⟨rfl,rfl,rfl,rfl,aa⟩ (fun E h hE s => ?_)
 generalize hρ:redoL (base+szB dg) fL fW.none=ρ at I s
 refine WP.has hE ?_
 obtain ⟨i,l,k,j,m,g,⟨h1,h2,h3,h4⟩,s⟩:=uB.1 s
 have s:=Jm (s.ae [2])
 have s:=ep.2 ⟨i,l,k,rfl,h1,h2,s.ae [2,0]⟩
 have s:=ep.2 ⟨j,m,g,rfl,h3,h4,s.ae [2,2]⟩
 have s:=s.ae [2,1,0]
 have aaf:=I.few
 refine zK 5 rfl (zf rfl (pK _ _) (zl rfl (s.ld (k:=0) rfl l_ rfl) (zc rfl (w_ hW s) ?_)))
 rintro v h ⟨kb,rfl,s⟩
 refine zc rfl (pP hW (s.ae [0,1]) (by decide) (by omega) (fun n hn=>wf_i64 (by have:=I.low n hn; omega) (by have:=I.low n hn; omega))) ?_
 intro kv h s
 refine zo rfl (a_ rfl rfl rfl (s.iH (n:=(aJ ρ.aq).length) (j:=0) rfl (by simp [eG]) (by decide) eu)) ?_
 refine zk 2 rfl (WP.block ?_)
 have s:=(s.ae [3,2,2,0,1,3]).del 6
 refine Jn hW (ks:=aJ ρ.aq) (by rw [HW]; exact aaf) (fun k hk=>(I.low k (BE.1 hk)).1) (fun k hk=>by
  cases hl:lookL k ρ.aq with
  | none=>exact absurd (BE.1 hk) (fU.1 hl)
  | some b=>rfl) I.len (aJ ρ.aq).length 0 δ h _ _ (by omega) (by rw [HW]; exact ⟨J.ok,by have:=J.wait; omega,J.now⟩) s ⟨rfl,rfl,rfl,rfl,rfl,aa⟩ (fun E' h' U e2 s' => ?_) (fun E h U e2 hE s => ?_)
 ·rw [dS] at U e2 s'
  have e:mj ρ δ=againW ρ (aJ ρ.aq) δ:=by rw [mj,aj U]
  rw [e]
  exact ⟨aa,_,oF e2,rfl,(bM.2 ⟨dv,s'.ae [0,2]⟩).ae [0,1,0]⟩
 ·rw [dS] at U e2 s
  refine WP.has hE (zK 5 rfl (zf rfl (pK _ _) (zl rfl (s.ld (k:=0) rfl l_ rfl) (zo rfl (a_ rfl rfl rfl (Bp (s.ae [1]) kZ)) ?_))))
  by_cases hz:ρ.aq=[]
  ·skip
   have e:mj ρ δ=(0,(againW ρ (aJ ρ.aq) δ).2):=by rw [mj,af (not_not_intro U),aj hz]
   rw [e]
   refine zt rfl (ag rfl rfl bR) (by rw [hz]; rfl) ?_
   exact zk 6 rfl (WP.ret ⟨aa,_,rfl,rfl,(bM.2 ⟨dv,((s.drop.drop).ae [0,2])⟩).ae [0,1,0]⟩)
  ·skip
   have e:mj ρ δ=(againW ρ (aJ ρ.aq) δ).2.dQ:=by rw [mj,af (not_not_intro U),af hz]
   rw [e]
   refine zh rfl (ag rfl rfl bR) (by have:ρ.aq.length≠0:=fun h=>hz (qB h); simp; omega) ?_
   refine zk 7 rfl (zf rfl (rO _ _) (zl rfl (s.ld (k:=2) rfl jQ rfl) (zc rfl (J9 hT.w.w (s.ae [3]) e2.ok e2.now) ?_)))
   rintro v h ⟨rfl,s⟩
   dsimp only [qn,V.cells,List.take,List.length_cons,List.length_nil,Nat.reduceAdd,List.drop,List.cons_append,List.nil_append,aU,bringA,getA] at s
   exact zk 2 rfl (WP.ret ⟨aa,_,rfl,rfl,(bM.2 ⟨dv,(((s.ae [3,4,3,0]).del 4).del 4)⟩).ae [0,0,0]⟩)
end
def BF (base aD:Nat)(rs:List cg)(data:List Nat)(dg fL:List cg): Prop :=
 rs=dg++fL∧((aD=0∧data=[]∧dg=[])∨∃A rc B,rs=A++rc::B∧aD=base+szB A∧aD≠0∧rc.kd=8∧8≤rc.data.length∧data=rc.data.drop 8∧max base (leN (rc.data.take 8))=base+szB dg)
def eL (δ:Dk)(base:Nat)(rs dg fL:List cg): Int×Dk :=
 if (δ.cA (szB rs)).1≠0 then δ.cA (szB rs) else mj (redoL (base+szB dg) fL fW.none) (δ.cA (szB rs)).2
theorem Jo {δ:Dk}{n:Nat}: (δ.dz n).2.waiting=δ.waiting∧(δ.dz n).2.now=δ.now∧(δ.dz n).2.aq=δ.aq:=by
 unfold Dk.dz Dk.qu
 split
 ·split
  ·exact ⟨rfl,rfl,rfl⟩
  ·split
   ·exact ⟨rfl,rfl,rfl⟩
   ·split <;> exact ⟨rfl,rfl,rfl⟩
 ·exact ⟨rfl,rfl,rfl⟩
theorem Jp {δ:Dk}: δ.cG.2.waiting=δ.waiting∧δ.cG.2.now=δ.now∧δ.cG.2.aq=δ.aq:=by
 unfold Dk.cG
 split
 ·exact ⟨rfl,rfl,rfl⟩
 ·split <;> exact ⟨rfl,rfl,rfl⟩
theorem C0 {δ:Dk}{n:Nat}: (δ.cA n).2.waiting=δ.waiting∧(δ.cA n).2.now=δ.now∧(δ.cA n).2.aq=δ.aq:=by
 unfold Dk.cA
 have h:=Jo (δ:=δ) (n:=n)
 split
 ·exact h
 ·split
  ·have I:=Jp (δ:=(δ.dz n).2)
   exact ⟨I.1.trans h.1,I.2.1.trans h.2.1,I.2.2.trans h.2.2⟩
  ·exact h
theorem oP.cA {δ:Dk}{m n:Nat}(h:oP δ m): oP (δ.cA n).2 m:=by
 obtain ⟨I,J,U⟩:=C0 (δ:=δ) (n:=n)
 exact ⟨h.ok.cA,by rw [I]; exact h.wait,by rw [J,U]; exact h.now⟩
section
variable {told:dF} {h:H} {S:List ax} {data j:List Nat} {p base aD:Nat} {δ:Dk}
noncomputable def soE : Code:=cJ [1,1,1,1,1,1,1,1,1] ((Tryz.f21.body).getD .skip)
theorem Fh (hT:W4 told){a q r n:Nat}{rs dg fL:List cg}(he:rs=dg++fL)(J:∀r∈rs,r.Ok)(U:(iD base aD rs).Ok)(sI:oP δ 65536){c0:Nat}
 (s:Sat h (cx a p q r .cD data c0::bZ r p q (Pl.fresh n)::bf q p (iD base aD rs)::aC p δ::S)){E:List (Nat×V)}{Q:Ex→List (Nat×V)→H→Prop}(hE:Has E [(9,.ptr a 0),(10,.int .u64 ((base+szB dg:Nat):Int))])
 {y:Int×Dk}(hy:mj (redoL (base+szB dg) fL fW.none) δ=y)
 (h1:∀E' h',y.1≠0→look E' 4=some .cD→look E' 5=some (.int .i64 y.1)→Sat h' (aC p y.2::S)→Q .ret E' h')
 (h2:∀E' h',y.1=0→look E' 4=some (.ptr a 0)→look E' 5=some (.int .i64 0)→Sat h' (cx a p q r .cD data c0::bZ r p q (Pl.fresh n)::bf q p (iD base aD rs)::aC p y.2::S)→Q .ret E' h'): WP ⟨Tryz.prog,told⟩ 95 soE E h Q:=by
 refine WP.has hE (zK 5 rfl (zc rfl (QS hT he J U sI (s.ae [0,1,1])) ?_))
 rintro v h ⟨rfl,s⟩
 rw [hy] at s
 rw [hy]
 by_cases I:y.1=0
 ·skip
  rw [I]
  exact zk 5 rfl (zh rfl (ag rfl rfl aX) (rfl) (zk 9 rfl (WP.ret (h2 _ _ I rfl rfl (s.ae [0,2,0,0])))))
 ·skip
  refine zk 5 rfl (zt rfl (ag rfl rfl aX) (by simpa using I) ?_)
  exact zk 8 rfl (WP.ret (h1 _ _ I rfl rfl (((s.ae [2]).del 1 |>.del 1).del 1)))
theorem aag {P:Program}{h:H}{J:Array TypeId}{k:IntKind}{a b:Int}: builtinV P h .max J [.int k a,.int k b]=some (.int k (max a b),h):=by
 simp only [builtinV,foldV,maxV,dB,ah,iY]
 by_cases I:a<b
 ·simp only [I,Ac,ah]
  rw [show max a b=b by omega]
 ·simp only [I,qL,az]
  rw [show max a b=a by omega]
theorem QT (hT:W4 told){n:Nat}{rs dg fL:List cg}(A7:1≤n)(Kr:n≤1024)(s:Sat h (aC p δ::S))(U:oP δ 65536)(hd:δ.dead=false)(hm:OD δ.mark base aD)(wP:base+δ.log.length≤1099511627776)(L2:aD≤1099511627776)
 (y7:δ.log=logB base rs++j)(J:∀r∈rs,r.Ok)(hj:ru j)(OK:BF base aD rs data dg fL):
  Call ⟨Tryz.prog,told⟩ 21 [.ptr p 0,.int .i64 (n:Int)] h fun v h' =>
   ((eL δ base rs dg fL).1≠0∧v=.bD [.cD,.int .i64 (eL δ base rs dg fL).1]∧Sat h' (aC p (eL δ base rs dg fL).2::S)) ∨
   ((eL δ base rs dg fL).1=0∧∃a q r,v=.bD [.ptr a 0,.int .i64 0]∧Sat h' (cx a p q r .cD data aD::bZ r p q (Pl.fresh n)::bf q p (iD base aD rs)::aC p (eL δ base rs dg fL).2::S)):=by
 have hW:=hT.w.w.w
 have hlen:=U.ok.len
 have lH:δ.log.length=szB rs+j.length:=by rw [y7,bC,ie]
 have D5:(iD base aD rs).Ok:=Kv (by omega) (by omega) L2
 obtain ⟨Wl,OK⟩:=OK
 generalize hy:eL δ base rs dg fL=y
 unfold eL at hy
 refine Call.of_wp (hW.free _ rfl) Tryz.func21 rfl rfl (zK 9 rfl (zh rfl (ag rfl rfl bx) (by simp <;> omega) ?_))
 refine zk 2 rfl (zh rfl (ag rfl rfl dR) (by simp <;> omega) ?_)
 refine zk 7 rfl (zc rfl (QK hT.wr s U.ok hd hm wP (by omega) y7 J hj) ?_)
 rw [ie]
 rintro v h (⟨I,rfl,s⟩ | ⟨I,q,rfl,s⟩)
 ·skip
  rw [aj I] at hy
  rw [hy] at I s
  rw [hy]
  refine zk 10 rfl (zt rfl (ag rfl rfl aX) (by simpa using I) ?_)
  exact zk 8 rfl (WP.ret ⟨aa,_,rfl,.inl ⟨I,rfl,s⟩⟩)
 rw [af (not_not_intro I)] at hy
 refine zk 10 rfl (zh rfl (ag rfl rfl aX) (rfl) (zk 8 rfl (zc rfl (J5 (p:=p) (q:=q) (n:=n) hW s) ?_)))
 rintro v h (⟨hn,_,_⟩ | ⟨_,_,r,rfl,s⟩)
 ·omega
 rw [cQ] at s
 refine zk 10 rfl (zh rfl (ag rfl rfl aX) (rfl) (zk 8 rfl (zo rfl (cX rfl (by rw [Vf]; rfl)) ?_)))
 refine aB.cO s rfl rfl rfl (gw rfl rfl) (fun p44 h s => ?_)
 refine zk 5 rfl (zc rfl (uO hW (s.ae [2])) ?_)
 rintro v h' ⟨rfl,rfl⟩
 refine zk 6 rfl (zc rfl (A3 hW (s.ae [2])) ?_)
 rintro v h' ⟨rfl,rfl⟩
 rcases OK with ⟨rfl,rfl,rfl⟩ | ⟨A,rc,B,hA,hcA,Sf,Oy,h8,rfl,gn⟩
 ·skip
  refine zk 5 rfl (zh rfl (ag rfl rfl aX) (rfl) (zk 3 rfl ?_))
  have s1:=bM.2 ⟨.bA,(s.rG).ae [1,0]⟩
  exact Fh hT Wl J D5 U.cA s1 ⟨rfl,rfl,aa⟩ hy (fun E' h' I e1 e2 s'=>⟨aa,_,ve e1 e2,.inl ⟨I,rfl,s'⟩⟩) (fun E' h' I e1 e2 s'=>⟨aa,_,ve e1 e2,.inr ⟨I,_,_,_,rfl,s'⟩⟩)
 ·skip
  subst hA
  subst hcA
  have fY:¬(((iD base (base+szB A) (A++rc::B)).check:Nat):Int)=0:=by show ¬((base+szB A:Nat):Int)=0; omega
  refine zk 5 rfl (zt rfl (ag rfl rfl aX) (by simpa using fY) ?_)
  refine zk 6 rfl (zc rfl (HV (dg:=A) (fL:=B) (r:=rc) hT.wr D5 (J rc (by simp)) (s.ae [2])) ?_)
  rintro v h ⟨dt,ch,cs,rfl,s⟩
  have jM:=(s.buf (k:=1) rfl).view.cells
  have me:=s.kF (j:=2) rfl
  have aah:[V.int .i64 (rc.kd:Int),V.int .u64 (rc.tx:Int),V.int .u64 (rc.pv:Int),V.int .u64 (rc.nx:Int),dt,ch].all storable=true:=mP jM.2 me.2.1
  refine zk 4 rfl ?_
  refine aB.cO s rfl rfl rfl (cH qU) (fun Vv h s => ?_)
  refine zS rfl (s.gX (j:=0) rfl gy rfl aah) ?_
  rintro h s
  refine zk 6 rfl (zt rfl (ag rfl rfl bR) (rfl) (zm rfl (zf rfl (tX _ _) (zl rfl (s.ld (k:=0) rfl c7 rfl) (zt rfl (ag rfl rfl bR) (by rw [Oy]; rfl) ?_)))))
  refine zk 2 rfl (zf rfl (yx _ _) (zl rfl (s.ld (k:=0) rfl bL rfl) (zo rfl (a_ rfl rfl rfl (bh aS (s.aG (k:=2) rfl (bI _ _)))) (zt rfl (ag rfl rfl ng) (by simp; omega) ?_))))
  refine zk 7 rfl (zf rfl (yx _ _) (zl rfl (s.ld (k:=0) rfl bL rfl) (zo rfl (cC (p:=some (.int .i64 8)) (q:=none) (m:=none) (p':=some 8) (q':=none) (m':=none) rfl rfl rfl rfl rfl rfl rfl (ej (s.buf (k:=2) rfl).view (a:=8) h8).1) (zc rfl (j4 hW (s.ae [2]) (nO (bI _ _) (a:=8) h8) (by have:=(J rc (by simp)).rd.data; simp; omega)) ?_))))
  intro u h s
  have s:=s.fF
  dsimp only [V.cells,List.length_cons,List.length_nil,Nat.reduceAdd,List.take,List.drop,List.cons_append,List.nil_append,aU,bringA,setA] at s
  have hu:=(s.aG (k:=0) rfl (cL _ _)).cells
  refine zk 2 rfl (zf rfl (GG _ _) (zS rfl (s.dZ (k:=6) rfl jy rfl (by decide) hu.1 hu.2) ?_))
  intro h s
  refine zn rfl (zf rfl (Cg _ _) ?_)
  refine zS rfl (by exact s.dZ (k:=6) rfl qT rfl (by decide) rfl rfl) (fun h s => ?_)
  refine zk 3 rfl (zf rfl (yx _ _) (zl rfl (s.ld (k:=2) rfl bL rfl) (zo rfl (cC (p:=none) (q:=some (.int .i64 8)) (m:=none) (p':=none) (q':=some 8) (m':=none) rfl rfl rfl rfl rfl rfl rfl (ia (s.buf (k:=1) rfl).view (b:=8) h8).1) (zc rfl (pN hW s (k:=1) rfl (wN (bI _ _) (b:=8) h8) (by rw [dJ]; omega)) ?_))))
  rintro v h' ⟨rfl,rfl⟩
  refine zo rfl (PE (r:=.int .u64 ((base+szB dg:Nat):Int)) rfl rfl (aag.trans (by rw [show max (((iD base (base+szB A) (A++rc::B)).base:Nat):Int) ((leN (rc.data.take 8):Nat):Int)=((base+szB dg:Nat):Int) by rw [←gn]; show max (base:Int) _=_; omega]))) ?_
  refine zk 2 rfl ?_
  have s:=(bM.2 ⟨u,(s.ae [6,0])⟩).ae [0,5,2,4]
  have s:=(((s.del 4).del 4).del 4).del 4
  exact Fh hT Wl J D5 U.cA s ⟨rfl,rfl,aa⟩ hy (fun E' h' I e1 e2 s'=>⟨aa,_,ve e1 e2,.inl ⟨I,rfl,s'⟩⟩) (fun E' h' I e1 e2 s'=>⟨aa,_,ve e1 e2,.inr ⟨I,_,_,_,rfl,s'⟩⟩)
end
end Go.Proofs.YtconhghphklfjaaGreat.Am
