/- Part 4 of the proof: Rb, Rc, Rd, Re, Rf, Rg, Kf, Kg, Kh, Ki, Kj, Kk, Kl, Km, Kn, Ia, Ib, Ic, Id, Rh, Ha, Hb, Hc, He, Hf, Hd. -/
import Derived.Test.YtjlcdlekmpjjnaaGreatPC
import Derived.Test.YtjlcdlekmpjjnaaGreatPB
namespace Go.Proofs.YtjlcdlekmpjjnaaGreat.Rg
set_option maxRecDepth 100000
set_option maxHeartbeats 4000000
theorem ALc {F:Type} [CR F] (x1 y1 x2 y2 l b:F) (hl:(l*(x2-x1))=(y2-y1)) (c1:(y1*y1)=(((x1*x1)*x1)+b)) (c2:(y2*y2)=(((x2*x2)*x2)+b)):((x2-x1)*((((x1*x2)+(x1*(((l*l)-x1)-x2)))+(x2*(((l*l)-x1)-x2)))+((l*(y1-(l*x1)))+(l*(y1-(l*x1))))))=0 :=
 AZ.1 (BF [x1,y1,x2,y2,l,b] (.sub (.mul (.sub (.v 2) (.v 0)) (.add (.add (.add (.mul (.v 0) (.v 2)) (.mul (.v 0) (.sub (.sub (.mul (.v 4) (.v 4)) (.v 0)) (.v 2)))) (.mul (.v 2) (.sub (.sub (.mul (.v 4) (.v 4)) (.v 0)) (.v 2)))) (.add (.mul (.v 4) (.sub (.v 1) (.mul (.v 4) (.v 0)))) (.mul (.v 4) (.sub (.v 1) (.mul (.v 4) (.v 0))))))) (.c 0)) [((.add (.add (.neg (.mul (.v 0) (.v 4))) (.v 1)) (.add (.mul (.v 2) (.v 4)) (.v 3))),.sub (.mul (.v 4) (.sub (.v 2) (.v 0))) (.sub (.v 3) (.v 1))),
  ((.c (-1)),.sub (.mul (.v 1) (.v 1)) (.add (.mul (.mul (.v 0) (.v 0)) (.v 0)) (.v 5))),
  ((.c 1),.sub (.mul (.v 3) (.v 3)) (.add (.mul (.mul (.v 2) (.v 2)) (.v 2)) (.v 5)))] ⟨AZ.2 hl,AZ.2 c1,AZ.2 c2,trivial⟩ (by kernel_rfl))
theorem ALd {F:Type} [CR F] (x y l:F) (hl:((y+y)*l)=(((x*x)+(x*x))+(x*x))):((((x*x)+(x*(((l*l)-x)-x)))+(x*(((l*l)-x)-x)))+((l*(y-(l*x)))+(l*(y-(l*x)))))=0 :=
 AZ.1 (BF [x,y,l] (.sub (.add (.add (.add (.mul (.v 0) (.v 0)) (.mul (.v 0) (.sub (.sub (.mul (.v 2) (.v 2)) (.v 0)) (.v 0)))) (.mul (.v 0) (.sub (.sub (.mul (.v 2) (.v 2)) (.v 0)) (.v 0)))) (.add (.mul (.v 2) (.sub (.v 1) (.mul (.v 2) (.v 0)))) (.mul (.v 2) (.sub (.v 1) (.mul (.v 2) (.v 0)))))) (.c 0)) [((.c 1),.sub (.mul (.add (.v 1) (.v 1)) (.v 2)) (.add (.add (.mul (.v 0) (.v 0)) (.mul (.v 0) (.v 0))) (.mul (.v 0) (.v 0))))] ⟨AZ.2 hl,trivial⟩ (by kernel_rfl))
theorem ALe {F:Type} [CR F] (x1 y1 x2 l b:F) (e2:((((x1*x2)+(x1*(((l*l)-x1)-x2)))+(x2*(((l*l)-x1)-x2)))+((l*(y1-(l*x1)))+(l*(y1-(l*x1)))))=0) (c1:(y1*y1)=(((x1*x1)*x1)+b)):(((x1*x2)*(((l*l)-x1)-x2))+b)=((y1-(l*x1))*(y1-(l*x1))) :=
 AZ.1 (BF [x1,y1,x2,l,b] (.sub (.add (.mul (.mul (.v 0) (.v 2)) (.sub (.sub (.mul (.v 3) (.v 3)) (.v 0)) (.v 2))) (.v 4)) (.mul (.sub (.v 1) (.mul (.v 3) (.v 0))) (.sub (.v 1) (.mul (.v 3) (.v 0))))) [((.v 0),.sub (.add (.add (.add (.mul (.v 0) (.v 2)) (.mul (.v 0) (.sub (.sub (.mul (.v 3) (.v 3)) (.v 0)) (.v 2)))) (.mul (.v 2) (.sub (.sub (.mul (.v 3) (.v 3)) (.v 0)) (.v 2)))) (.add (.mul (.v 3) (.sub (.v 1) (.mul (.v 3) (.v 0)))) (.mul (.v 3) (.sub (.v 1) (.mul (.v 3) (.v 0)))))) (.c 0)),
  ((.c (-1)),.sub (.mul (.v 1) (.v 1)) (.add (.mul (.mul (.v 0) (.v 0)) (.v 0)) (.v 4)))] ⟨AZ.2 e2,AZ.2 c1,trivial⟩ (by kernel_rfl))
theorem ALf {F:Type} [CR F] (x1 y1 x2 x3 l n b:F) (h1:y1=((l*x1)+n)) (e1:((x1+x2)+x3)=(l*l)) (e2:((((x1*x2)+(x1*x3))+(x2*x3))+((l*n)+(l*n)))=0) (e3:(((x1*x2)*x3)+b)=(n*n)):(y1*y1)=(((x1*x1)*x1)+b) :=
 AZ.1 (BF [x1,y1,x2,x3,l,n,b] (.sub (.mul (.v 1) (.v 1)) (.add (.mul (.mul (.v 0) (.v 0)) (.v 0)) (.v 6))) [((.add (.mul (.v 0) (.v 4)) (.add (.v 1) (.v 5))),.sub (.v 1) (.add (.mul (.v 4) (.v 0)) (.v 5))),
  ((.neg (.pw (.v 0) 2)),.sub (.add (.add (.v 0) (.v 2)) (.v 3)) (.mul (.v 4) (.v 4))),
  ((.v 0),.sub (.add (.add (.add (.mul (.v 0) (.v 2)) (.mul (.v 0) (.v 3))) (.mul (.v 2) (.v 3))) (.add (.mul (.v 4) (.v 5)) (.mul (.v 4) (.v 5)))) (.c 0)),
  ((.c (-1)),.sub (.add (.mul (.mul (.v 0) (.v 2)) (.v 3)) (.v 6)) (.mul (.v 5) (.v 5)))] ⟨AZ.2 h1,AZ.2 e1,AZ.2 e2,AZ.2 e3,trivial⟩ (by kernel_rfl))
theorem y9 {F:Type} [CR F] (x1 y1 x3 l n:F) (h1:y1=((l*x1)+n)) (e1:((x1+x1)+x3)=(l*l)) (e2:((((x1*x1)+(x1*x3))+(x1*x3))+((l*n)+(l*n)))=0):((y1+y1)*l)=(((x1*x1)+(x1*x1))+(x1*x1)) :=
 AZ.1 (BF [x1,y1,x3,l,n] (.sub (.mul (.add (.v 1) (.v 1)) (.v 3)) (.add (.add (.mul (.v 0) (.v 0)) (.mul (.v 0) (.v 0))) (.mul (.v 0) (.v 0)))) [((.mul (.c 2) (.v 3)),.sub (.v 1) (.add (.mul (.v 3) (.v 0)) (.v 4))),
  ((.mul (.c (-2)) (.v 0)),.sub (.add (.add (.v 0) (.v 0)) (.v 2)) (.mul (.v 3) (.v 3))),
  ((.c 1),.sub (.add (.add (.add (.mul (.v 0) (.v 0)) (.mul (.v 0) (.v 2))) (.mul (.v 0) (.v 2))) (.add (.mul (.v 3) (.v 4)) (.mul (.v 3) (.v 4)))) (.c 0))] ⟨AZ.2 h1,AZ.2 e1,AZ.2 e2,trivial⟩ (by kernel_rfl))
theorem ALg {F:Type} [CR F] (x1 y1 x3 y3 l n:F) (h1:y1=((l*x1)+n)) (h3:y3=((l*x3)+n)):((l*(x1-x3))-y1)=(-y3) :=
 AZ.1 (BF [x1,y1,x3,y3,l,n] (.sub (.sub (.mul (.v 4) (.sub (.v 0) (.v 2))) (.v 1)) (.neg (.v 3))) [((.c (-1)),.sub (.v 1) (.add (.mul (.v 4) (.v 0)) (.v 5))),
  ((.c 1),.sub (.v 3) (.add (.mul (.v 4) (.v 2)) (.v 5)))] ⟨AZ.2 h1,AZ.2 h3,trivial⟩ (by kernel_rfl))
theorem ALh {F:Type} [CR F] (x1 x2 x3 l:F) (e1:((x1+x2)+x3)=(l*l)):(((l*l)-x1)-x2)=x3 :=
 AZ.1 (BF [x1,x2,x3,l] (.sub (.sub (.sub (.mul (.v 3) (.v 3)) (.v 0)) (.v 1)) (.v 2)) [((.c (-1)),.sub (.add (.add (.v 0) (.v 1)) (.v 2)) (.mul (.v 3) (.v 3)))] ⟨AZ.2 e1,trivial⟩ (by kernel_rfl))
theorem Ps {F:Type} [CR F] (x1 y1 x2 y2 l n:F) (h1:y1=((l*x1)+n)) (h2:y2=((l*x2)+n)):((x2-x1)*l)=(y2-y1) :=
 AZ.1 (BF [x1,y1,x2,y2,l,n] (.sub (.mul (.sub (.v 2) (.v 0)) (.v 4)) (.sub (.v 3) (.v 1))) [((.c 1),.sub (.v 1) (.add (.mul (.v 4) (.v 0)) (.v 5))),
  ((.c (-1)),.sub (.v 3) (.add (.mul (.v 4) (.v 2)) (.v 5)))] ⟨AZ.2 h1,AZ.2 h2,trivial⟩ (by kernel_rfl))
theorem ALi {F:Type} [CR F] (x1 x2 x3 k:F) (e:((x1+x2)+x3)=k):((x2+x1)+x3)=k :=
 AZ.1 (BF [x1,x2,x3,k] (.sub (.add (.add (.v 1) (.v 0)) (.v 2)) (.v 3)) [((.c 1),.sub (.add (.add (.v 0) (.v 1)) (.v 2)) (.v 3))] ⟨AZ.2 e,trivial⟩ (by kernel_rfl))
theorem ALj {F:Type} [CR F] (x1 x2 x3 k:F) (e:((x1+x2)+x3)=k):((x2+x3)+x1)=k :=
 AZ.1 (BF [x1,x2,x3,k] (.sub (.add (.add (.v 1) (.v 2)) (.v 0)) (.v 3)) [((.c 1),.sub (.add (.add (.v 0) (.v 1)) (.v 2)) (.v 3))] ⟨AZ.2 e,trivial⟩ (by kernel_rfl))
theorem ALk {F:Type} [CR F] (x1 x2 x3 k:F) (e:((((x1*x2)+(x1*x3))+(x2*x3))+k)=0):((((x2*x1)+(x2*x3))+(x1*x3))+k)=0 :=
 AZ.1 (BF [x1,x2,x3,k] (.sub (.add (.add (.add (.mul (.v 1) (.v 0)) (.mul (.v 1) (.v 2))) (.mul (.v 0) (.v 2))) (.v 3)) (.c 0)) [((.c 1),.sub (.add (.add (.add (.mul (.v 0) (.v 1)) (.mul (.v 0) (.v 2))) (.mul (.v 1) (.v 2))) (.v 3)) (.c 0))] ⟨AZ.2 e,trivial⟩ (by kernel_rfl))
theorem ALl {F:Type} [CR F] (x1 x2 x3 k:F) (e:((((x1*x2)+(x1*x3))+(x2*x3))+k)=0):((((x2*x3)+(x2*x1))+(x3*x1))+k)=0 :=
 AZ.1 (BF [x1,x2,x3,k] (.sub (.add (.add (.add (.mul (.v 1) (.v 2)) (.mul (.v 1) (.v 0))) (.mul (.v 2) (.v 0))) (.v 3)) (.c 0)) [((.c 1),.sub (.add (.add (.add (.mul (.v 0) (.v 1)) (.mul (.v 0) (.v 2))) (.mul (.v 1) (.v 2))) (.v 3)) (.c 0))] ⟨AZ.2 e,trivial⟩ (by kernel_rfl))
theorem ALm {F:Type} [CR F] (x1 x2 x3 b k:F) (e:(((x1*x2)*x3)+b)=k):(((x2*x1)*x3)+b)=k :=
 AZ.1 (BF [x1,x2,x3,b,k] (.sub (.add (.mul (.mul (.v 1) (.v 0)) (.v 2)) (.v 3)) (.v 4)) [((.c 1),.sub (.add (.mul (.mul (.v 0) (.v 1)) (.v 2)) (.v 3)) (.v 4))] ⟨AZ.2 e,trivial⟩ (by kernel_rfl))
theorem ALn {F:Type} [CR F] (x1 x2 x3 b k:F) (e:(((x1*x2)*x3)+b)=k):(((x2*x3)*x1)+b)=k :=
 AZ.1 (BF [x1,x2,x3,b,k] (.sub (.add (.mul (.mul (.v 1) (.v 2)) (.v 0)) (.v 3)) (.v 4)) [((.c 1),.sub (.add (.mul (.mul (.v 0) (.v 1)) (.v 2)) (.v 3)) (.v 4))] ⟨AZ.2 e,trivial⟩ (by kernel_rfl))
theorem f8 {F:Type} [CR F] (x y l n:F) (h:y=((l*x)+n)):(-y)=(((-l)*x)+(-n)) :=
 AZ.1 (BF [x,y,l,n] (.sub (.neg (.v 1)) (.add (.mul (.neg (.v 2)) (.v 0)) (.neg (.v 3)))) [((.c (-1)),.sub (.v 1) (.add (.mul (.v 2) (.v 0)) (.v 3)))] ⟨AZ.2 h,trivial⟩ (by kernel_rfl))
theorem neg_sq {F:Type} [CR F] (l:F) :((-l)*(-l))=(l*l) :=
 AZ.1 (BF [l] (.sub (.mul (.neg (.v 0)) (.neg (.v 0))) (.mul (.v 0) (.v 0))) [] trivial (by kernel_rfl))
theorem ALo {F:Type} [CR F] (l n:F) :(((-l)*(-n))+((-l)*(-n)))=((l*n)+(l*n)) :=
 AZ.1 (BF [l,n] (.sub (.add (.mul (.neg (.v 0)) (.neg (.v 1))) (.mul (.neg (.v 0)) (.neg (.v 1)))) (.add (.mul (.v 0) (.v 1)) (.mul (.v 0) (.v 1)))) [] trivial (by kernel_rfl))
theorem ALp {F:Type} [CR F] (y1 y2 k:F) (h1:(y1*y1)=k) (h2:(y2*y2)=k):((y1-y2)*(y1+y2))=0 :=
 AZ.1 (BF [y1,y2,k] (.sub (.mul (.sub (.v 0) (.v 1)) (.add (.v 0) (.v 1))) (.c 0)) [((.c 1),.sub (.mul (.v 0) (.v 0)) (.v 2)),
  ((.c (-1)),.sub (.mul (.v 1) (.v 1)) (.v 2))] ⟨AZ.2 h1,AZ.2 h2,trivial⟩ (by kernel_rfl))
theorem Wk {F:Type} [CR F] (x y1 y2 l n:F) (h1:y1=((l*x)+n)) (h2:y2=((l*x)+n)):y1=y2 :=
 AZ.1 (BF [x,y1,y2,l,n] (.sub (.v 1) (.v 2)) [((.c 1),.sub (.v 1) (.add (.mul (.v 3) (.v 0)) (.v 4))),
  ((.c (-1)),.sub (.v 2) (.add (.mul (.v 3) (.v 0)) (.v 4)))] ⟨AZ.2 h1,AZ.2 h2,trivial⟩ (by kernel_rfl))
theorem ALq {F:Type} [CR F] (x1 x2 y2 x4 l n:F) (h2:y2=((l*x2)+n)) (e1:((x1+x2)+x4)=(l*l)) (e2:((((x1*x2)+(x1*x4))+(x2*x4))+((l*n)+(l*n)))=0):(((l*y2)+(l*y2))+((l*l)*(x1-x2)))=(((x1*x1)+(x1*x2))+(x2*x2)) :=
 AZ.1 (BF [x1,x2,y2,x4,l,n] (.sub (.add (.add (.mul (.v 4) (.v 2)) (.mul (.v 4) (.v 2))) (.mul (.mul (.v 4) (.v 4)) (.sub (.v 0) (.v 1)))) (.add (.add (.mul (.v 0) (.v 0)) (.mul (.v 0) (.v 1))) (.mul (.v 1) (.v 1)))) [((.mul (.c 2) (.v 4)),.sub (.v 2) (.add (.mul (.v 4) (.v 1)) (.v 5))),
  ((.add (.neg (.v 0)) (.neg (.v 1))),.sub (.add (.add (.v 0) (.v 1)) (.v 3)) (.mul (.v 4) (.v 4))),
  ((.c 1),.sub (.add (.add (.add (.mul (.v 0) (.v 1)) (.mul (.v 0) (.v 3))) (.mul (.v 1) (.v 3))) (.add (.mul (.v 4) (.v 5)) (.mul (.v 4) (.v 5)))) (.c 0))] ⟨AZ.2 h2,AZ.2 e1,AZ.2 e2,trivial⟩ (by kernel_rfl))
theorem zA {F:Type} [CR F] (x2 y2 x3 x5 m q:F) (h2:y2=((m*x2)+q)) (e1:((x2+x3)+x5)=(m*m)) (e2:((((x2*x3)+(x2*x5))+(x3*x5))+((m*q)+(m*q)))=0):(((m*y2)+(m*y2))+((m*m)*(x3-x2)))=(((x3*x3)+(x3*x2))+(x2*x2)) :=
 AZ.1 (BF [x2,y2,x3,x5,m,q] (.sub (.add (.add (.mul (.v 4) (.v 1)) (.mul (.v 4) (.v 1))) (.mul (.mul (.v 4) (.v 4)) (.sub (.v 2) (.v 0)))) (.add (.add (.mul (.v 2) (.v 2)) (.mul (.v 2) (.v 0))) (.mul (.v 0) (.v 0)))) [((.mul (.c 2) (.v 4)),.sub (.v 1) (.add (.mul (.v 4) (.v 0)) (.v 5))),
  ((.add (.neg (.v 0)) (.neg (.v 2))),.sub (.add (.add (.v 0) (.v 2)) (.v 3)) (.mul (.v 4) (.v 4))),
  ((.c 1),.sub (.add (.add (.add (.mul (.v 0) (.v 2)) (.mul (.v 0) (.v 3))) (.mul (.v 2) (.v 3))) (.add (.mul (.v 4) (.v 5)) (.mul (.v 4) (.v 5)))) (.c 0))] ⟨AZ.2 h2,AZ.2 e1,AZ.2 e2,trivial⟩ (by kernel_rfl))
theorem ALr {F:Type} [CR F] (x1 x2 x3 y2 l m s t:F) (r1:(((l*y2)+(l*y2))+((l*l)*(x1-x2)))=(((x1*x1)+(x1*x2))+(x2*x2))) (r2:(((m*y2)+(m*y2))+((m*m)*(x3-x2)))=(((x3*x3)+(x3*x2))+(x2*x2))) (hs:(s*((((l*l)-x1)-x2)-x3))=(((l*(x2-(((l*l)-x1)-x2)))-y2)-(y2+(m*(x3-x2))))) (ht:(t*((((m*m)-x2)-x3)-x1))=(((m*(x2-(((m*m)-x2)-x3)))-y2)-(y2+(l*(x1-x2))))):(((((((l*l)-x1)-x2)-x3)*((((l*l)-x1)-x2)-x3))*(((((m*m)-x2)-x3)-x1)*((((m*m)-x2)-x3)-x1)))*(((s*s)-(((l*l)-x1)-x2))-x3))=(((((((l*l)-x1)-x2)-x3)*((((l*l)-x1)-x2)-x3))*(((((m*m)-x2)-x3)-x1)*((((m*m)-x2)-x3)-x1)))*(((t*t)-x1)-(((m*m)-x2)-x3))) :=
 AZ.1 (BF [x1,x2,x3,y2,l,m,s,t] (.sub (.mul (.mul (.mul (.sub (.sub (.sub (.mul (.v 4) (.v 4)) (.v 0)) (.v 1)) (.v 2)) (.sub (.sub (.sub (.mul (.v 4) (.v 4)) (.v 0)) (.v 1)) (.v 2))) (.mul (.sub (.sub (.sub (.mul (.v 5) (.v 5)) (.v 1)) (.v 2)) (.v 0)) (.sub (.sub (.sub (.mul (.v 5) (.v 5)) (.v 1)) (.v 2)) (.v 0)))) (.sub (.sub (.mul (.v 6) (.v 6)) (.sub (.sub (.mul (.v 4) (.v 4)) (.v 0)) (.v 1))) (.v 2))) (.mul (.mul (.mul (.sub (.sub (.sub (.mul (.v 4) (.v 4)) (.v 0)) (.v 1)) (.v 2)) (.sub (.sub (.sub (.mul (.v 4) (.v 4)) (.v 0)) (.v 1)) (.v 2))) (.mul (.sub (.sub (.sub (.mul (.v 5) (.v 5)) (.v 1)) (.v 2)) (.v 0)) (.sub (.sub (.sub (.mul (.v 5) (.v 5)) (.v 1)) (.v 2)) (.v 0)))) (.sub (.sub (.mul (.v 7) (.v 7)) (.v 0)) (.sub (.sub (.mul (.v 5) (.v 5)) (.v 1)) (.v 2))))) [((.add (.add (.add (.add (.add (.mul (.c (-2)) (.pw (.v 0) 3)) (.mul (.mul (.c (-6)) (.pw (.v 0) 2)) (.v 1))) (.add (.mul (.mul (.c (-6)) (.pw (.v 0) 2)) (.v 2)) (.add (.mul (.mul (.c 3) (.pw (.v 0) 2)) (.pw (.v 4) 2)) (.mul (.mul (.c 3) (.pw (.v 0) 2)) (.pw (.v 5) 2))))) (.add (.add (.mul (.mul (.c (-4)) (.v 0)) (.pw (.v 1) 2)) (.add (.mul (.mul (.mul (.c (-10)) (.v 0)) (.v 1)) (.v 2)) (.mul (.mul (.mul (.c 3) (.v 0)) (.v 1)) (.pw (.v 4) 2)))) (.add (.mul (.mul (.mul (.mul (.c (-6)) (.v 0)) (.v 1)) (.v 4)) (.v 5)) (.add (.mul (.mul (.mul (.c 5) (.v 0)) (.v 1)) (.pw (.v 5) 2)) (.mul (.mul (.c (-4)) (.v 0)) (.pw (.v 2) 2)))))) (.add (.add (.add (.mul (.mul (.mul (.c 6) (.v 0)) (.v 2)) (.pw (.v 4) 2)) (.mul (.mul (.mul (.c 4) (.v 0)) (.v 2)) (.pw (.v 5) 2))) (.add (.mul (.mul (.mul (.c 4) (.v 0)) (.v 3)) (.v 4)) (.add (.neg (.mul (.v 0) (.pw (.v 4) 4))) (.mul (.mul (.mul (.c (-3)) (.v 0)) (.pw (.v 4) 2)) (.pw (.v 5) 2))))) (.add (.add (.mul (.mul (.mul (.c 2) (.v 0)) (.v 4)) (.pw (.v 5) 3)) (.add (.mul (.c 2) (.pw (.v 1) 3)) (.mul (.mul (.c 4) (.pw (.v 1) 2)) (.v 2)))) (.add (.neg (.mul (.pw (.v 1) 2) (.pw (.v 4) 2))) (.add (.mul (.mul (.mul (.c (-6)) (.pw (.v 1) 2)) (.v 4)) (.v 5)) (.mul (.pw (.v 1) 2) (.pw (.v 5) 2))))))) (.add (.add (.add (.add (.mul (.mul (.c 4) (.v 1)) (.pw (.v 2) 2)) (.mul (.mul (.mul (.c 2) (.v 1)) (.v 2)) (.pw (.v 4) 2))) (.add (.mul (.mul (.mul (.mul (.c (-6)) (.v 1)) (.v 2)) (.v 4)) (.v 5)) (.add (.mul (.mul (.mul (.c 2) (.v 1)) (.v 2)) (.pw (.v 5) 2)) (.mul (.mul (.mul (.c 4) (.v 1)) (.v 3)) (.v 4))))) (.add (.add (.mul (.mul (.mul (.c (-4)) (.v 1)) (.v 3)) (.v 5)) (.add (.mul (.v 1) (.pw (.v 4) 4)) (.mul (.mul (.mul (.c 4) (.v 1)) (.pw (.v 4) 3)) (.v 5)))) (.add (.neg (.mul (.mul (.v 1) (.pw (.v 4) 2)) (.pw (.v 5) 2))) (.add (.mul (.mul (.mul (.c 4) (.v 1)) (.v 4)) (.pw (.v 5) 3)) (.mul (.mul (.c (-2)) (.v 1)) (.pw (.v 5) 4)))))) (.add (.add (.add (.mul (.c 4) (.pw (.v 2) 3)) (.add (.mul (.mul (.c 2) (.pw (.v 2) 2)) (.pw (.v 4) 2)) (.mul (.mul (.c (-6)) (.pw (.v 2) 2)) (.pw (.v 5) 2)))) (.add (.mul (.mul (.mul (.c 4) (.v 2)) (.v 3)) (.v 4)) (.add (.mul (.mul (.mul (.c (-8)) (.v 2)) (.v 3)) (.v 5)) (.mul (.mul (.mul (.c 2) (.v 2)) (.pw (.v 4) 3)) (.v 5))))) (.add (.add (.mul (.mul (.mul (.c (-2)) (.v 2)) (.pw (.v 4) 2)) (.pw (.v 5) 2)) (.add (.mul (.mul (.c 2) (.v 2)) (.pw (.v 5) 4)) (.mul (.mul (.c (-2)) (.v 3)) (.pw (.v 4) 3)))) (.add (.mul (.mul (.mul (.c (-2)) (.v 3)) (.v 4)) (.pw (.v 5) 2)) (.add (.mul (.mul (.c 4) (.v 3)) (.pw (.v 5) 3)) (.mul (.mul (.c (-2)) (.pw (.v 4) 3)) (.pw (.v 5) 3)))))))),.sub (.add (.add (.mul (.v 4) (.v 3)) (.mul (.v 4) (.v 3))) (.mul (.mul (.v 4) (.v 4)) (.sub (.v 0) (.v 1)))) (.add (.add (.mul (.v 0) (.v 0)) (.mul (.v 0) (.v 1))) (.mul (.v 1) (.v 1)))),
  ((.add (.add (.add (.add (.add (.mul (.mul (.mul (.c 6) (.v 0)) (.v 1)) (.v 2)) (.mul (.mul (.mul (.mul (.c 6) (.v 0)) (.v 1)) (.v 4)) (.v 5))) (.add (.mul (.mul (.c 6) (.v 0)) (.pw (.v 2) 2)) (.mul (.mul (.mul (.c (-6)) (.v 0)) (.v 2)) (.pw (.v 5) 2)))) (.add (.add (.mul (.mul (.mul (.c (-4)) (.v 0)) (.v 3)) (.v 5)) (.mul (.mul (.mul (.c (-2)) (.v 0)) (.v 4)) (.pw (.v 5) 3))) (.add (.mul (.c (-2)) (.pw (.v 1) 3)) (.mul (.mul (.c (-3)) (.pw (.v 1) 2)) (.pw (.v 4) 2))))) (.add (.add (.add (.mul (.mul (.mul (.c 6) (.pw (.v 1) 2)) (.v 4)) (.v 5)) (.mul (.mul (.c 3) (.pw (.v 1) 2)) (.pw (.v 5) 2))) (.add (.mul (.mul (.c 6) (.v 1)) (.pw (.v 2) 2)) (.mul (.mul (.mul (.c (-9)) (.v 1)) (.v 2)) (.pw (.v 4) 2)))) (.add (.add (.mul (.mul (.mul (.mul (.c 6) (.v 1)) (.v 2)) (.v 4)) (.v 5)) (.mul (.mul (.mul (.c (-3)) (.v 1)) (.v 2)) (.pw (.v 5) 2))) (.add (.mul (.mul (.mul (.c 4) (.v 1)) (.v 3)) (.v 4)) (.mul (.mul (.mul (.c (-4)) (.v 1)) (.v 3)) (.v 5)))))) (.add (.add (.add (.add (.mul (.mul (.mul (.c (-4)) (.v 1)) (.pw (.v 4) 3)) (.v 5)) (.mul (.mul (.mul (.c 3) (.v 1)) (.pw (.v 4) 2)) (.pw (.v 5) 2))) (.add (.mul (.mul (.mul (.c (-4)) (.v 1)) (.v 4)) (.pw (.v 5) 3)) (.neg (.mul (.v 1) (.pw (.v 5) 4))))) (.add (.add (.mul (.c 2) (.pw (.v 2) 3)) (.mul (.mul (.c (-3)) (.pw (.v 2) 2)) (.pw (.v 4) 2))) (.add (.mul (.mul (.c (-3)) (.pw (.v 2) 2)) (.pw (.v 5) 2)) (.mul (.mul (.mul (.c 8) (.v 2)) (.v 3)) (.v 4))))) (.add (.add (.add (.mul (.mul (.mul (.c (-4)) (.v 2)) (.v 3)) (.v 5)) (.mul (.mul (.mul (.c (-2)) (.v 2)) (.pw (.v 4) 3)) (.v 5))) (.add (.mul (.mul (.mul (.c 3) (.v 2)) (.pw (.v 4) 2)) (.pw (.v 5) 2)) (.mul (.v 2) (.pw (.v 5) 4)))) (.add (.add (.mul (.mul (.mul (.c 2) (.v 3)) (.pw (.v 4) 2)) (.v 5)) (.mul (.mul (.mul (.c (-4)) (.v 3)) (.v 4)) (.pw (.v 5) 2))) (.add (.mul (.mul (.c 2) (.v 3)) (.pw (.v 5) 3)) (.mul (.mul (.c 2) (.pw (.v 4) 3)) (.pw (.v 5) 3))))))),.sub (.add (.add (.mul (.v 5) (.v 3)) (.mul (.v 5) (.v 3))) (.mul (.mul (.v 5) (.v 5)) (.sub (.v 2) (.v 1)))) (.add (.add (.mul (.v 2) (.v 2)) (.mul (.v 2) (.v 1))) (.mul (.v 1) (.v 1)))),
  ((.add (.add (.add (.add (.add (.add (.mul (.pw (.v 0) 3) (.v 4)) (.neg (.mul (.pw (.v 0) 3) (.v 6)))) (.add (.mul (.mul (.mul (.c 4) (.pw (.v 0) 2)) (.v 1)) (.v 4)) (.mul (.mul (.pw (.v 0) 2) (.v 1)) (.v 5)))) (.add (.add (.mul (.mul (.mul (.c (-3)) (.pw (.v 0) 2)) (.v 1)) (.v 6)) (.mul (.mul (.mul (.c 2) (.pw (.v 0) 2)) (.v 2)) (.v 4))) (.add (.neg (.mul (.mul (.pw (.v 0) 2) (.v 2)) (.v 5))) (.add (.mul (.mul (.mul (.c (-3)) (.pw (.v 0) 2)) (.v 2)) (.v 6)) (.mul (.mul (.c (-2)) (.pw (.v 0) 2)) (.v 3)))))) (.add (.add (.add (.neg (.mul (.pw (.v 0) 2) (.pw (.v 4) 3))) (.mul (.mul (.pw (.v 0) 2) (.pw (.v 4) 2)) (.v 6))) (.add (.mul (.mul (.mul (.c (-2)) (.pw (.v 0) 2)) (.v 4)) (.pw (.v 5) 2)) (.add (.mul (.mul (.mul (.c 2) (.pw (.v 0) 2)) (.pw (.v 5) 2)) (.v 6)) (.mul (.mul (.mul (.c 5) (.v 0)) (.pw (.v 1) 2)) (.v 4))))) (.add (.add (.mul (.mul (.mul (.c 2) (.v 0)) (.pw (.v 1) 2)) (.v 5)) (.mul (.mul (.mul (.c (-3)) (.v 0)) (.pw (.v 1) 2)) (.v 6))) (.add (.mul (.mul (.mul (.mul (.c 6) (.v 0)) (.v 1)) (.v 2)) (.v 4)) (.add (.mul (.mul (.mul (.mul (.c (-6)) (.v 0)) (.v 1)) (.v 2)) (.v 6)) (.mul (.mul (.mul (.c (-4)) (.v 0)) (.v 1)) (.v 3))))))) (.add (.add (.add (.add (.mul (.mul (.mul (.c (-2)) (.v 0)) (.v 1)) (.pw (.v 4) 3)) (.mul (.mul (.mul (.mul (.c 2) (.v 0)) (.v 1)) (.pw (.v 4) 2)) (.v 6))) (.add (.mul (.mul (.mul (.mul (.c (-6)) (.v 0)) (.v 1)) (.v 4)) (.pw (.v 5) 2)) (.add (.mul (.mul (.mul (.c (-2)) (.v 0)) (.v 1)) (.pw (.v 5) 3)) (.mul (.mul (.mul (.mul (.c 4) (.v 0)) (.v 1)) (.pw (.v 5) 2)) (.v 6))))) (.add (.add (.mul (.mul (.v 0) (.pw (.v 2) 2)) (.v 4)) (.mul (.mul (.mul (.c (-2)) (.v 0)) (.pw (.v 2) 2)) (.v 5))) (.add (.mul (.mul (.mul (.c (-3)) (.v 0)) (.pw (.v 2) 2)) (.v 6)) (.add (.mul (.mul (.mul (.c (-4)) (.v 0)) (.v 2)) (.v 3)) (.mul (.mul (.mul (.c (-2)) (.v 0)) (.v 2)) (.pw (.v 4) 3)))))) (.add (.add (.add (.mul (.mul (.mul (.mul (.c 2) (.v 0)) (.v 2)) (.pw (.v 4) 2)) (.v 6)) (.mul (.mul (.mul (.mul (.c (-2)) (.v 0)) (.v 2)) (.v 4)) (.pw (.v 5) 2))) (.add (.mul (.mul (.mul (.c 2) (.v 0)) (.v 2)) (.pw (.v 5) 3)) (.add (.mul (.mul (.mul (.mul (.c 4) (.v 0)) (.v 2)) (.pw (.v 5) 2)) (.v 6)) (.mul (.mul (.mul (.c 4) (.v 0)) (.v 3)) (.pw (.v 5) 2))))) (.add (.add (.mul (.mul (.mul (.c 2) (.v 0)) (.pw (.v 4) 3)) (.pw (.v 5) 2)) (.mul (.mul (.mul (.mul (.c (-2)) (.v 0)) (.pw (.v 4) 2)) (.pw (.v 5) 2)) (.v 6))) (.add (.mul (.mul (.v 0) (.v 4)) (.pw (.v 5) 4)) (.add (.neg (.mul (.mul (.v 0) (.pw (.v 5) 4)) (.v 6))) (.mul (.mul (.c 2) (.pw (.v 1) 3)) (.v 4)))))))) (.add (.add (.add (.add (.add (.mul (.pw (.v 1) 3) (.v 5)) (.neg (.mul (.pw (.v 1) 3) (.v 6)))) (.add (.mul (.mul (.mul (.c 4) (.pw (.v 1) 2)) (.v 2)) (.v 4)) (.add (.mul (.mul (.pw (.v 1) 2) (.v 2)) (.v 5)) (.mul (.mul (.mul (.c (-3)) (.pw (.v 1) 2)) (.v 2)) (.v 6))))) (.add (.add (.mul (.mul (.c (-2)) (.pw (.v 1) 2)) (.v 3)) (.neg (.mul (.pw (.v 1) 2) (.pw (.v 4) 3)))) (.add (.mul (.mul (.pw (.v 1) 2) (.pw (.v 4) 2)) (.v 6)) (.add (.mul (.mul (.mul (.c (-4)) (.pw (.v 1) 2)) (.v 4)) (.pw (.v 5) 2)) (.mul (.mul (.c (-2)) (.pw (.v 1) 2)) (.pw (.v 5) 3)))))) (.add (.add (.add (.mul (.mul (.mul (.c 2) (.pw (.v 1) 2)) (.pw (.v 5) 2)) (.v 6)) (.mul (.mul (.mul (.c 2) (.v 1)) (.pw (.v 2) 2)) (.v 4))) (.add (.neg (.mul (.mul (.v 1) (.pw (.v 2) 2)) (.v 5))) (.add (.mul (.mul (.mul (.c (-3)) (.v 1)) (.pw (.v 2) 2)) (.v 6)) (.mul (.mul (.mul (.c (-4)) (.v 1)) (.v 2)) (.v 3))))) (.add (.add (.mul (.mul (.mul (.c (-2)) (.v 1)) (.v 2)) (.pw (.v 4) 3)) (.mul (.mul (.mul (.mul (.c 2) (.v 1)) (.v 2)) (.pw (.v 4) 2)) (.v 6))) (.add (.mul (.mul (.mul (.mul (.c (-4)) (.v 1)) (.v 2)) (.v 4)) (.pw (.v 5) 2)) (.add (.mul (.mul (.mul (.mul (.c 4) (.v 1)) (.v 2)) (.pw (.v 5) 2)) (.v 6)) (.mul (.mul (.mul (.c 4) (.v 1)) (.v 3)) (.pw (.v 5) 2))))))) (.add (.add (.add (.add (.mul (.mul (.mul (.c 2) (.v 1)) (.pw (.v 4) 3)) (.pw (.v 5) 2)) (.mul (.mul (.mul (.mul (.c (-2)) (.v 1)) (.pw (.v 4) 2)) (.pw (.v 5) 2)) (.v 6))) (.add (.mul (.mul (.mul (.c 2) (.v 1)) (.v 4)) (.pw (.v 5) 4)) (.add (.mul (.v 1) (.pw (.v 5) 5)) (.neg (.mul (.mul (.v 1) (.pw (.v 5) 4)) (.v 6)))))) (.add (.add (.neg (.mul (.pw (.v 2) 3) (.v 5))) (.neg (.mul (.pw (.v 2) 3) (.v 6)))) (.add (.mul (.mul (.c (-2)) (.pw (.v 2) 2)) (.v 3)) (.add (.neg (.mul (.pw (.v 2) 2) (.pw (.v 4) 3))) (.mul (.mul (.pw (.v 2) 2) (.pw (.v 4) 2)) (.v 6)))))) (.add (.add (.add (.mul (.mul (.c 2) (.pw (.v 2) 2)) (.pw (.v 5) 3)) (.mul (.mul (.mul (.c 2) (.pw (.v 2) 2)) (.pw (.v 5) 2)) (.v 6))) (.add (.mul (.mul (.mul (.c 4) (.v 2)) (.v 3)) (.pw (.v 5) 2)) (.add (.mul (.mul (.mul (.c 2) (.v 2)) (.pw (.v 4) 3)) (.pw (.v 5) 2)) (.mul (.mul (.mul (.mul (.c (-2)) (.v 2)) (.pw (.v 4) 2)) (.pw (.v 5) 2)) (.v 6))))) (.add (.add (.neg (.mul (.v 2) (.pw (.v 5) 5))) (.neg (.mul (.mul (.v 2) (.pw (.v 5) 4)) (.v 6)))) (.add (.mul (.mul (.c (-2)) (.v 3)) (.pw (.v 5) 4)) (.add (.neg (.mul (.pw (.v 4) 3) (.pw (.v 5) 4))) (.mul (.mul (.pw (.v 4) 2) (.pw (.v 5) 4)) (.v 6))))))))),.sub (.mul (.v 6) (.sub (.sub (.sub (.mul (.v 4) (.v 4)) (.v 0)) (.v 1)) (.v 2))) (.sub (.sub (.mul (.v 4) (.sub (.v 1) (.sub (.sub (.mul (.v 4) (.v 4)) (.v 0)) (.v 1)))) (.v 3)) (.add (.v 3) (.mul (.v 5) (.sub (.v 2) (.v 1)))))),
  ((.add (.add (.add (.add (.add (.add (.mul (.pw (.v 0) 3) (.v 4)) (.mul (.pw (.v 0) 3) (.v 7))) (.add (.mul (.mul (.pw (.v 0) 2) (.v 1)) (.v 4)) (.mul (.mul (.mul (.c (-2)) (.pw (.v 0) 2)) (.v 1)) (.v 5)))) (.add (.add (.mul (.mul (.mul (.c 3) (.pw (.v 0) 2)) (.v 1)) (.v 7)) (.mul (.mul (.mul (.c 2) (.pw (.v 0) 2)) (.v 2)) (.v 4))) (.add (.neg (.mul (.mul (.pw (.v 0) 2) (.v 2)) (.v 5))) (.add (.mul (.mul (.mul (.c 3) (.pw (.v 0) 2)) (.v 2)) (.v 7)) (.mul (.mul (.c 2) (.pw (.v 0) 2)) (.v 3)))))) (.add (.add (.add (.mul (.mul (.c (-2)) (.pw (.v 0) 2)) (.pw (.v 4) 3)) (.mul (.mul (.mul (.c (-2)) (.pw (.v 0) 2)) (.pw (.v 4) 2)) (.v 7))) (.add (.mul (.pw (.v 0) 2) (.pw (.v 5) 3)) (.add (.neg (.mul (.mul (.pw (.v 0) 2) (.pw (.v 5) 2)) (.v 7))) (.neg (.mul (.mul (.v 0) (.pw (.v 1) 2)) (.v 4)))))) (.add (.add (.mul (.mul (.mul (.c (-4)) (.v 0)) (.pw (.v 1) 2)) (.v 5)) (.mul (.mul (.mul (.c 3) (.v 0)) (.pw (.v 1) 2)) (.v 7))) (.add (.mul (.mul (.mul (.mul (.c (-6)) (.v 0)) (.v 1)) (.v 2)) (.v 5)) (.add (.mul (.mul (.mul (.mul (.c 6) (.v 0)) (.v 1)) (.v 2)) (.v 7)) (.mul (.mul (.mul (.c 4) (.v 0)) (.v 1)) (.v 3))))))) (.add (.add (.add (.add (.mul (.mul (.mul (.mul (.c 4) (.v 0)) (.v 1)) (.pw (.v 4) 2)) (.v 5)) (.mul (.mul (.mul (.mul (.c (-4)) (.v 0)) (.v 1)) (.pw (.v 4) 2)) (.v 7))) (.add (.mul (.mul (.mul (.c 2) (.v 0)) (.v 1)) (.pw (.v 5) 3)) (.add (.mul (.mul (.mul (.mul (.c (-2)) (.v 0)) (.v 1)) (.pw (.v 5) 2)) (.v 7)) (.mul (.mul (.v 0) (.pw (.v 2) 2)) (.v 4))))) (.add (.add (.mul (.mul (.mul (.c (-2)) (.v 0)) (.pw (.v 2) 2)) (.v 5)) (.mul (.mul (.mul (.c 3) (.v 0)) (.pw (.v 2) 2)) (.v 7))) (.add (.mul (.mul (.mul (.c 4) (.v 0)) (.v 2)) (.v 3)) (.add (.mul (.mul (.mul (.c (-2)) (.v 0)) (.v 2)) (.pw (.v 4) 3)) (.mul (.mul (.mul (.mul (.c 2) (.v 0)) (.v 2)) (.pw (.v 4) 2)) (.v 5)))))) (.add (.add (.add (.mul (.mul (.mul (.mul (.c (-4)) (.v 0)) (.v 2)) (.pw (.v 4) 2)) (.v 7)) (.mul (.mul (.mul (.c 2) (.v 0)) (.v 2)) (.pw (.v 5) 3))) (.add (.mul (.mul (.mul (.mul (.c (-2)) (.v 0)) (.v 2)) (.pw (.v 5) 2)) (.v 7)) (.add (.mul (.mul (.mul (.c (-4)) (.v 0)) (.v 3)) (.pw (.v 4) 2)) (.mul (.v 0) (.pw (.v 4) 5))))) (.add (.add (.mul (.mul (.v 0) (.pw (.v 4) 4)) (.v 7)) (.mul (.mul (.mul (.c (-2)) (.v 0)) (.pw (.v 4) 2)) (.pw (.v 5) 3))) (.add (.mul (.mul (.mul (.mul (.c 2) (.v 0)) (.pw (.v 4) 2)) (.pw (.v 5) 2)) (.v 7)) (.add (.neg (.mul (.pw (.v 1) 3) (.v 4))) (.mul (.mul (.c (-2)) (.pw (.v 1) 3)) (.v 5)))))))) (.add (.add (.add (.add (.add (.mul (.pw (.v 1) 3) (.v 7)) (.mul (.mul (.mul (.c (-2)) (.pw (.v 1) 2)) (.v 2)) (.v 4))) (.add (.mul (.mul (.mul (.c (-5)) (.pw (.v 1) 2)) (.v 2)) (.v 5)) (.add (.mul (.mul (.mul (.c 3) (.pw (.v 1) 2)) (.v 2)) (.v 7)) (.mul (.mul (.c 2) (.pw (.v 1) 2)) (.v 3))))) (.add (.add (.mul (.mul (.c 2) (.pw (.v 1) 2)) (.pw (.v 4) 3)) (.mul (.mul (.mul (.c 4) (.pw (.v 1) 2)) (.pw (.v 4) 2)) (.v 5))) (.add (.mul (.mul (.mul (.c (-2)) (.pw (.v 1) 2)) (.pw (.v 4) 2)) (.v 7)) (.add (.mul (.pw (.v 1) 2) (.pw (.v 5) 3)) (.neg (.mul (.mul (.pw (.v 1) 2) (.pw (.v 5) 2)) (.v 7))))))) (.add (.add (.add (.neg (.mul (.mul (.v 1) (.pw (.v 2) 2)) (.v 4))) (.mul (.mul (.mul (.c (-4)) (.v 1)) (.pw (.v 2) 2)) (.v 5))) (.add (.mul (.mul (.mul (.c 3) (.v 1)) (.pw (.v 2) 2)) (.v 7)) (.add (.mul (.mul (.mul (.c 4) (.v 1)) (.v 2)) (.v 3)) (.mul (.mul (.mul (.c 2) (.v 1)) (.v 2)) (.pw (.v 4) 3))))) (.add (.add (.mul (.mul (.mul (.mul (.c 6) (.v 1)) (.v 2)) (.pw (.v 4) 2)) (.v 5)) (.mul (.mul (.mul (.mul (.c (-4)) (.v 1)) (.v 2)) (.pw (.v 4) 2)) (.v 7))) (.add (.mul (.mul (.mul (.c 2) (.v 1)) (.v 2)) (.pw (.v 5) 3)) (.add (.mul (.mul (.mul (.mul (.c (-2)) (.v 1)) (.v 2)) (.pw (.v 5) 2)) (.v 7)) (.mul (.mul (.mul (.c (-4)) (.v 1)) (.v 3)) (.pw (.v 4) 2))))))) (.add (.add (.add (.add (.neg (.mul (.v 1) (.pw (.v 4) 5))) (.mul (.mul (.mul (.c (-2)) (.v 1)) (.pw (.v 4) 4)) (.v 5))) (.add (.mul (.mul (.v 1) (.pw (.v 4) 4)) (.v 7)) (.add (.mul (.mul (.mul (.c (-2)) (.v 1)) (.pw (.v 4) 2)) (.pw (.v 5) 3)) (.mul (.mul (.mul (.mul (.c 2) (.v 1)) (.pw (.v 4) 2)) (.pw (.v 5) 2)) (.v 7))))) (.add (.add (.neg (.mul (.pw (.v 2) 3) (.v 5))) (.mul (.pw (.v 2) 3) (.v 7))) (.add (.mul (.mul (.c 2) (.pw (.v 2) 2)) (.v 3)) (.add (.mul (.mul (.mul (.c 2) (.pw (.v 2) 2)) (.pw (.v 4) 2)) (.v 5)) (.mul (.mul (.mul (.c (-2)) (.pw (.v 2) 2)) (.pw (.v 4) 2)) (.v 7)))))) (.add (.add (.add (.mul (.pw (.v 2) 2) (.pw (.v 5) 3)) (.neg (.mul (.mul (.pw (.v 2) 2) (.pw (.v 5) 2)) (.v 7)))) (.add (.mul (.mul (.mul (.c (-4)) (.v 2)) (.v 3)) (.pw (.v 4) 2)) (.add (.neg (.mul (.mul (.v 2) (.pw (.v 4) 4)) (.v 5))) (.mul (.mul (.v 2) (.pw (.v 4) 4)) (.v 7))))) (.add (.add (.mul (.mul (.mul (.c (-2)) (.v 2)) (.pw (.v 4) 2)) (.pw (.v 5) 3)) (.mul (.mul (.mul (.mul (.c 2) (.v 2)) (.pw (.v 4) 2)) (.pw (.v 5) 2)) (.v 7))) (.add (.mul (.mul (.c 2) (.v 3)) (.pw (.v 4) 4)) (.add (.mul (.pw (.v 4) 4) (.pw (.v 5) 3)) (.neg (.mul (.mul (.pw (.v 4) 4) (.pw (.v 5) 2)) (.v 7)))))))))),.sub (.mul (.v 7) (.sub (.sub (.sub (.mul (.v 5) (.v 5)) (.v 1)) (.v 2)) (.v 0))) (.sub (.sub (.mul (.v 5) (.sub (.v 1) (.sub (.sub (.mul (.v 5) (.v 5)) (.v 1)) (.v 2)))) (.v 3)) (.add (.v 3) (.mul (.v 4) (.sub (.v 0) (.v 1))))))] ⟨AZ.2 r1,AZ.2 r2,AZ.2 hs,AZ.2 ht,trivial⟩ (by kernel_rfl))
theorem ALs {F:Type} [CR F] (x1 x2 x3 y2 l m s t:F) (r1:(((l*y2)+(l*y2))+((l*l)*(x1-x2)))=(((x1*x1)+(x1*x2))+(x2*x2))) (r2:(((m*y2)+(m*y2))+((m*m)*(x3-x2)))=(((x3*x3)+(x3*x2))+(x2*x2))) (hs:(s*((((l*l)-x1)-x2)-x3))=(((l*(x2-(((l*l)-x1)-x2)))-y2)-(y2+(m*(x3-x2))))) (ht:(t*((((m*m)-x2)-x3)-x1))=(((m*(x2-(((m*m)-x2)-x3)))-y2)-(y2+(l*(x1-x2))))):((((((((l*l)-x1)-x2)-x3)*((((l*l)-x1)-x2)-x3))*((((l*l)-x1)-x2)-x3))*((((m*m)-x2)-x3)-x1))*((s*(x3-(((s*s)-(((l*l)-x1)-x2))-x3)))-(y2+(m*(x3-x2)))))=((((((((l*l)-x1)-x2)-x3)*((((l*l)-x1)-x2)-x3))*((((l*l)-x1)-x2)-x3))*((((m*m)-x2)-x3)-x1))*((t*(x1-(((s*s)-(((l*l)-x1)-x2))-x3)))-(y2+(l*(x1-x2))))) :=
 AZ.1 (BF [x1,x2,x3,y2,l,m,s,t] (.sub (.mul (.mul (.mul (.mul (.sub (.sub (.sub (.mul (.v 4) (.v 4)) (.v 0)) (.v 1)) (.v 2)) (.sub (.sub (.sub (.mul (.v 4) (.v 4)) (.v 0)) (.v 1)) (.v 2))) (.sub (.sub (.sub (.mul (.v 4) (.v 4)) (.v 0)) (.v 1)) (.v 2))) (.sub (.sub (.sub (.mul (.v 5) (.v 5)) (.v 1)) (.v 2)) (.v 0))) (.sub (.mul (.v 6) (.sub (.v 2) (.sub (.sub (.mul (.v 6) (.v 6)) (.sub (.sub (.mul (.v 4) (.v 4)) (.v 0)) (.v 1))) (.v 2)))) (.add (.v 3) (.mul (.v 5) (.sub (.v 2) (.v 1)))))) (.mul (.mul (.mul (.mul (.sub (.sub (.sub (.mul (.v 4) (.v 4)) (.v 0)) (.v 1)) (.v 2)) (.sub (.sub (.sub (.mul (.v 4) (.v 4)) (.v 0)) (.v 1)) (.v 2))) (.sub (.sub (.sub (.mul (.v 4) (.v 4)) (.v 0)) (.v 1)) (.v 2))) (.sub (.sub (.sub (.mul (.v 5) (.v 5)) (.v 1)) (.v 2)) (.v 0))) (.sub (.mul (.v 7) (.sub (.v 0) (.sub (.sub (.mul (.v 6) (.v 6)) (.sub (.sub (.mul (.v 4) (.v 4)) (.v 0)) (.v 1))) (.v 2)))) (.add (.v 3) (.mul (.v 4) (.sub (.v 0) (.v 1))))))) [((.add (.add (.add (.add (.add (.mul (.mul (.c (-2)) (.pw (.v 0) 3)) (.v 4)) (.add (.mul (.mul (.mul (.c (-8)) (.pw (.v 0) 2)) (.v 1)) (.v 4)) (.mul (.mul (.mul (.c (-2)) (.pw (.v 0) 2)) (.v 1)) (.v 5)))) (.add (.add (.mul (.mul (.mul (.c (-4)) (.pw (.v 0) 2)) (.v 2)) (.v 4)) (.mul (.mul (.mul (.c 2) (.pw (.v 0) 2)) (.v 2)) (.v 5))) (.add (.mul (.mul (.c 2) (.pw (.v 0) 2)) (.v 3)) (.mul (.mul (.c 4) (.pw (.v 0) 2)) (.pw (.v 4) 3))))) (.add (.add (.add (.mul (.mul (.mul (.c 2) (.pw (.v 0) 2)) (.v 4)) (.pw (.v 5) 2)) (.mul (.mul (.mul (.c (-8)) (.v 0)) (.pw (.v 1) 2)) (.v 4))) (.add (.mul (.mul (.mul (.c (-4)) (.v 0)) (.pw (.v 1) 2)) (.v 5)) (.mul (.mul (.mul (.mul (.c (-10)) (.v 0)) (.v 1)) (.v 2)) (.v 4)))) (.add (.add (.mul (.mul (.mul (.c 4) (.v 0)) (.v 1)) (.v 3)) (.mul (.mul (.mul (.c 9) (.v 0)) (.v 1)) (.pw (.v 4) 3))) (.add (.neg (.mul (.mul (.mul (.v 0) (.v 1)) (.pw (.v 4) 2)) (.v 5))) (.mul (.mul (.mul (.mul (.c 5) (.v 0)) (.v 1)) (.v 4)) (.pw (.v 5) 2)))))) (.add (.add (.add (.add (.mul (.mul (.v 0) (.v 1)) (.pw (.v 5) 3)) (.mul (.mul (.mul (.c 4) (.v 0)) (.pw (.v 2) 2)) (.v 5))) (.add (.mul (.mul (.mul (.c 4) (.v 0)) (.v 2)) (.v 3)) (.mul (.mul (.mul (.c 7) (.v 0)) (.v 2)) (.pw (.v 4) 3)))) (.add (.add (.mul (.mul (.mul (.v 0) (.v 2)) (.pw (.v 4) 2)) (.v 5)) (.mul (.mul (.mul (.mul (.c 3) (.v 0)) (.v 2)) (.v 4)) (.pw (.v 5) 2))) (.add (.neg (.mul (.mul (.v 0) (.v 2)) (.pw (.v 5) 3))) (.mul (.mul (.mul (.c 2) (.v 0)) (.v 3)) (.pw (.v 4) 2))))) (.add (.add (.add (.mul (.mul (.mul (.c (-2)) (.v 0)) (.v 3)) (.pw (.v 5) 2)) (.mul (.mul (.c (-2)) (.v 0)) (.pw (.v 4) 5))) (.add (.mul (.mul (.mul (.c (-4)) (.v 0)) (.pw (.v 4) 3)) (.pw (.v 5) 2)) (.mul (.mul (.c 2) (.pw (.v 1) 3)) (.v 4)))) (.add (.add (.mul (.mul (.mul (.c 2) (.pw (.v 1) 2)) (.v 2)) (.v 4)) (.mul (.mul (.mul (.c (-2)) (.pw (.v 1) 2)) (.v 2)) (.v 5))) (.add (.mul (.mul (.c 2) (.pw (.v 1) 2)) (.pw (.v 4) 3)) (.mul (.mul (.mul (.c (-4)) (.pw (.v 1) 2)) (.pw (.v 4) 2)) (.v 5))))))) (.add (.add (.add (.add (.mul (.mul (.mul (.c 2) (.pw (.v 1) 2)) (.v 4)) (.pw (.v 5) 2)) (.add (.mul (.mul (.c 2) (.pw (.v 1) 2)) (.pw (.v 5) 3)) (.mul (.mul (.mul (.c 6) (.v 1)) (.pw (.v 2) 2)) (.v 4)))) (.add (.add (.mul (.mul (.mul (.c 2) (.v 1)) (.pw (.v 2) 2)) (.v 5)) (.mul (.mul (.mul (.c 2) (.v 1)) (.v 2)) (.v 3))) (.add (.mul (.mul (.mul (.c 8) (.v 1)) (.v 2)) (.pw (.v 4) 3)) (.mul (.mul (.mul (.mul (.c 6) (.v 1)) (.v 2)) (.pw (.v 4) 2)) (.v 5))))) (.add (.add (.add (.mul (.mul (.mul (.mul (.c 6) (.v 1)) (.v 2)) (.v 4)) (.pw (.v 5) 2)) (.mul (.mul (.mul (.c (-2)) (.v 1)) (.v 2)) (.pw (.v 5) 3))) (.add (.mul (.mul (.mul (.c 6) (.v 1)) (.v 3)) (.pw (.v 4) 2)) (.mul (.mul (.mul (.c (-4)) (.v 1)) (.v 3)) (.pw (.v 5) 2)))) (.add (.add (.neg (.mul (.v 1) (.pw (.v 4) 5))) (.mul (.mul (.mul (.c 3) (.v 1)) (.pw (.v 4) 4)) (.v 5))) (.add (.mul (.mul (.mul (.c (-5)) (.v 1)) (.pw (.v 4) 3)) (.pw (.v 5) 2)) (.neg (.mul (.mul (.v 1) (.pw (.v 4) 2)) (.pw (.v 5) 3))))))) (.add (.add (.add (.add (.mul (.mul (.mul (.c (-2)) (.v 1)) (.v 4)) (.pw (.v 5) 4)) (.mul (.mul (.c 4) (.pw (.v 2) 3)) (.v 4))) (.add (.mul (.mul (.mul (.c (-2)) (.pw (.v 2) 2)) (.pw (.v 4) 2)) (.v 5)) (.mul (.mul (.mul (.c (-6)) (.pw (.v 2) 2)) (.v 4)) (.pw (.v 5) 2)))) (.add (.add (.mul (.mul (.mul (.c (-2)) (.v 2)) (.v 3)) (.pw (.v 4) 2)) (.mul (.mul (.mul (.mul (.c (-12)) (.v 2)) (.v 3)) (.v 4)) (.v 5))) (.add (.mul (.mul (.c (-3)) (.v 2)) (.pw (.v 4) 5)) (.mul (.mul (.mul (.c (-3)) (.v 2)) (.pw (.v 4) 4)) (.v 5))))) (.add (.add (.add (.mul (.mul (.mul (.c (-3)) (.v 2)) (.pw (.v 4) 3)) (.pw (.v 5) 2)) (.mul (.mul (.v 2) (.pw (.v 4) 2)) (.pw (.v 5) 3))) (.add (.mul (.mul (.mul (.c 2) (.v 2)) (.v 4)) (.pw (.v 5) 4)) (.mul (.mul (.c (-4)) (.pw (.v 3) 2)) (.v 4)))) (.add (.add (.mul (.mul (.c (-4)) (.v 3)) (.pw (.v 4) 4)) (.mul (.mul (.mul (.c 2) (.v 3)) (.pw (.v 4) 2)) (.pw (.v 5) 2))) (.add (.mul (.mul (.mul (.c 4) (.v 3)) (.v 4)) (.pw (.v 5) 3)) (.mul (.mul (.c 2) (.pw (.v 4) 5)) (.pw (.v 5) 2)))))))),.sub (.add (.add (.mul (.v 4) (.v 3)) (.mul (.v 4) (.v 3))) (.mul (.mul (.v 4) (.v 4)) (.sub (.v 0) (.v 1)))) (.add (.add (.mul (.v 0) (.v 0)) (.mul (.v 0) (.v 1))) (.mul (.v 1) (.v 1)))),
  ((.add (.add (.add (.add (.add (.mul (.mul (.mul (.c 2) (.v 0)) (.pw (.v 1) 2)) (.v 4)) (.add (.mul (.mul (.mul (.c 2) (.v 0)) (.pw (.v 1) 2)) (.v 5)) (.mul (.mul (.mul (.mul (.c 8) (.v 0)) (.v 1)) (.v 2)) (.v 4)))) (.add (.mul (.mul (.mul (.mul (.c 2) (.v 0)) (.v 1)) (.v 2)) (.v 5)) (.add (.mul (.mul (.mul (.c (-2)) (.v 0)) (.v 1)) (.v 3)) (.mul (.mul (.mul (.c (-3)) (.v 0)) (.v 1)) (.pw (.v 4) 3))))) (.add (.add (.mul (.mul (.mul (.mul (.c 3) (.v 0)) (.v 1)) (.pw (.v 4) 2)) (.v 5)) (.add (.neg (.mul (.mul (.mul (.v 0) (.v 1)) (.v 4)) (.pw (.v 5) 2))) (.neg (.mul (.mul (.v 0) (.v 1)) (.pw (.v 5) 3))))) (.add (.add (.mul (.mul (.mul (.c 2) (.v 0)) (.pw (.v 2) 2)) (.v 4)) (.mul (.mul (.mul (.c (-4)) (.v 0)) (.pw (.v 2) 2)) (.v 5))) (.add (.mul (.mul (.mul (.c (-4)) (.v 0)) (.v 2)) (.v 3)) (.mul (.mul (.mul (.c (-3)) (.v 0)) (.v 2)) (.pw (.v 4) 3)))))) (.add (.add (.add (.mul (.mul (.mul (.mul (.c (-3)) (.v 0)) (.v 2)) (.pw (.v 4) 2)) (.v 5)) (.add (.mul (.mul (.mul (.mul (.c (-5)) (.v 0)) (.v 2)) (.v 4)) (.pw (.v 5) 2)) (.mul (.mul (.v 0) (.v 2)) (.pw (.v 5) 3)))) (.add (.add (.mul (.mul (.mul (.mul (.c (-4)) (.v 0)) (.v 3)) (.v 4)) (.v 5)) (.mul (.mul (.mul (.c 2) (.v 0)) (.v 3)) (.pw (.v 5) 2))) (.add (.mul (.mul (.mul (.c 2) (.v 0)) (.pw (.v 4) 3)) (.pw (.v 5) 2)) (.mul (.mul (.c (-2)) (.pw (.v 1) 3)) (.v 4))))) (.add (.add (.mul (.mul (.mul (.c 4) (.pw (.v 1) 2)) (.v 2)) (.v 4)) (.add (.mul (.mul (.mul (.c 4) (.pw (.v 1) 2)) (.v 2)) (.v 5)) (.mul (.mul (.c (-8)) (.pw (.v 1) 2)) (.pw (.v 4) 3)))) (.add (.add (.mul (.mul (.mul (.c 2) (.pw (.v 1) 2)) (.pw (.v 4) 2)) (.v 5)) (.mul (.mul (.mul (.c 4) (.pw (.v 1) 2)) (.v 4)) (.pw (.v 5) 2))) (.add (.mul (.mul (.mul (.c 4) (.v 1)) (.pw (.v 2) 2)) (.v 4)) (.mul (.mul (.mul (.c (-2)) (.v 1)) (.pw (.v 2) 2)) (.v 5))))))) (.add (.add (.add (.add (.mul (.mul (.mul (.c (-4)) (.v 1)) (.v 2)) (.v 3)) (.add (.mul (.mul (.mul (.c (-14)) (.v 1)) (.v 2)) (.pw (.v 4) 3)) (.mul (.mul (.mul (.mul (.c (-4)) (.v 1)) (.v 2)) (.pw (.v 4) 2)) (.v 5)))) (.add (.mul (.mul (.mul (.mul (.c (-10)) (.v 1)) (.v 2)) (.v 4)) (.pw (.v 5) 2)) (.add (.mul (.mul (.mul (.c (-2)) (.v 1)) (.v 2)) (.pw (.v 5) 3)) (.mul (.mul (.mul (.c 8) (.v 1)) (.v 3)) (.pw (.v 4) 2))))) (.add (.add (.mul (.mul (.mul (.mul (.c (-8)) (.v 1)) (.v 3)) (.v 4)) (.v 5)) (.add (.mul (.mul (.mul (.c (-2)) (.v 1)) (.v 3)) (.pw (.v 5) 2)) (.mul (.mul (.c 3) (.v 1)) (.pw (.v 4) 5)))) (.add (.add (.mul (.mul (.mul (.c (-3)) (.v 1)) (.pw (.v 4) 4)) (.v 5)) (.mul (.mul (.mul (.c 5) (.v 1)) (.pw (.v 4) 3)) (.pw (.v 5) 2))) (.add (.mul (.mul (.v 1) (.pw (.v 4) 2)) (.pw (.v 5) 3)) (.mul (.mul (.c (-2)) (.pw (.v 2) 3)) (.v 5)))))) (.add (.add (.add (.mul (.mul (.c (-2)) (.pw (.v 2) 2)) (.v 3)) (.add (.mul (.mul (.c (-2)) (.pw (.v 2) 2)) (.pw (.v 4) 3)) (.mul (.mul (.mul (.c 2) (.pw (.v 2) 2)) (.pw (.v 4) 2)) (.v 5)))) (.add (.add (.mul (.mul (.c 2) (.pw (.v 2) 2)) (.pw (.v 5) 3)) (.mul (.mul (.mul (.c 10) (.v 2)) (.v 3)) (.pw (.v 4) 2))) (.add (.mul (.mul (.mul (.c 6) (.v 2)) (.v 3)) (.pw (.v 5) 2)) (.mul (.mul (.c 3) (.v 2)) (.pw (.v 4) 5))))) (.add (.add (.mul (.mul (.mul (.c 3) (.v 2)) (.pw (.v 4) 4)) (.v 5)) (.add (.mul (.mul (.mul (.c 5) (.v 2)) (.pw (.v 4) 3)) (.pw (.v 5) 2)) (.neg (.mul (.mul (.v 2) (.pw (.v 4) 2)) (.pw (.v 5) 3))))) (.add (.add (.mul (.mul (.c 4) (.pw (.v 3) 2)) (.v 5)) (.mul (.mul (.mul (.c 4) (.v 3)) (.pw (.v 4) 3)) (.v 5))) (.add (.mul (.mul (.mul (.c (-6)) (.v 3)) (.pw (.v 4) 2)) (.pw (.v 5) 2)) (.mul (.mul (.c (-2)) (.pw (.v 4) 5)) (.pw (.v 5) 2)))))))),.sub (.add (.add (.mul (.v 5) (.v 3)) (.mul (.v 5) (.v 3))) (.mul (.mul (.v 5) (.v 5)) (.sub (.v 2) (.v 1)))) (.add (.add (.mul (.v 2) (.v 2)) (.mul (.v 2) (.v 1))) (.mul (.v 1) (.v 1)))),
  ((.add (.add (.add (.add (.add (.add (.add (.pw (.v 0) 4) (.mul (.mul (.c 4) (.pw (.v 0) 3)) (.v 1))) (.add (.mul (.pw (.v 0) 3) (.v 2)) (.add (.neg (.mul (.pw (.v 0) 3) (.pw (.v 4) 2))) (.mul (.mul (.mul (.c (-2)) (.pw (.v 0) 3)) (.v 4)) (.v 6))))) (.add (.add (.neg (.mul (.pw (.v 0) 3) (.pw (.v 5) 2))) (.add (.mul (.pw (.v 0) 3) (.pw (.v 6) 2)) (.mul (.mul (.c 6) (.pw (.v 0) 2)) (.pw (.v 1) 2)))) (.add (.mul (.mul (.mul (.c 3) (.pw (.v 0) 2)) (.v 1)) (.v 2)) (.add (.mul (.mul (.mul (.c (-2)) (.pw (.v 0) 2)) (.v 1)) (.pw (.v 4) 2)) (.mul (.mul (.mul (.pw (.v 0) 2) (.v 1)) (.v 4)) (.v 5)))))) (.add (.add (.add (.mul (.mul (.mul (.mul (.c (-5)) (.pw (.v 0) 2)) (.v 1)) (.v 4)) (.v 6)) (.add (.mul (.mul (.mul (.c (-3)) (.pw (.v 0) 2)) (.v 1)) (.pw (.v 5) 2)) (.mul (.mul (.mul (.pw (.v 0) 2) (.v 1)) (.v 5)) (.v 6)))) (.add (.mul (.mul (.mul (.c 3) (.pw (.v 0) 2)) (.v 1)) (.pw (.v 6) 2)) (.add (.mul (.mul (.c (-3)) (.pw (.v 0) 2)) (.pw (.v 2) 2)) (.neg (.mul (.mul (.pw (.v 0) 2) (.v 2)) (.pw (.v 4) 2)))))) (.add (.add (.mul (.mul (.mul (.mul (.c (-4)) (.pw (.v 0) 2)) (.v 2)) (.v 4)) (.v 5)) (.add (.mul (.mul (.mul (.mul (.c (-4)) (.pw (.v 0) 2)) (.v 2)) (.v 4)) (.v 6)) (.mul (.mul (.mul (.mul (.c 2) (.pw (.v 0) 2)) (.v 2)) (.v 5)) (.v 6)))) (.add (.mul (.mul (.mul (.c 3) (.pw (.v 0) 2)) (.v 2)) (.pw (.v 6) 2)) (.add (.mul (.mul (.mul (.c (-4)) (.pw (.v 0) 2)) (.v 3)) (.v 4)) (.neg (.mul (.pw (.v 0) 2) (.pw (.v 4) 4)))))))) (.add (.add (.add (.add (.mul (.mul (.mul (.c 4) (.pw (.v 0) 2)) (.pw (.v 4) 3)) (.v 6)) (.mul (.mul (.mul (.c 2) (.pw (.v 0) 2)) (.pw (.v 4) 2)) (.pw (.v 5) 2))) (.add (.mul (.mul (.mul (.c (-2)) (.pw (.v 0) 2)) (.pw (.v 4) 2)) (.pw (.v 6) 2)) (.add (.mul (.mul (.pw (.v 0) 2) (.v 4)) (.pw (.v 5) 3)) (.mul (.mul (.mul (.pw (.v 0) 2) (.v 4)) (.pw (.v 5) 2)) (.v 6))))) (.add (.add (.neg (.mul (.mul (.pw (.v 0) 2) (.pw (.v 5) 3)) (.v 6))) (.add (.neg (.mul (.mul (.pw (.v 0) 2) (.pw (.v 5) 2)) (.pw (.v 6) 2))) (.mul (.mul (.c 4) (.v 0)) (.pw (.v 1) 3)))) (.add (.mul (.mul (.mul (.c 3) (.v 0)) (.pw (.v 1) 2)) (.v 2)) (.add (.mul (.mul (.mul (.c (-2)) (.v 0)) (.pw (.v 1) 2)) (.pw (.v 4) 2)) (.mul (.mul (.mul (.mul (.c (-4)) (.v 0)) (.pw (.v 1) 2)) (.v 4)) (.v 6)))))) (.add (.add (.add (.mul (.mul (.mul (.c (-4)) (.v 0)) (.pw (.v 1) 2)) (.pw (.v 5) 2)) (.add (.mul (.mul (.mul (.mul (.c 2) (.v 0)) (.pw (.v 1) 2)) (.v 5)) (.v 6)) (.mul (.mul (.mul (.c 3) (.v 0)) (.pw (.v 1) 2)) (.pw (.v 6) 2)))) (.add (.mul (.mul (.mul (.c (-6)) (.v 0)) (.v 1)) (.pw (.v 2) 2)) (.add (.neg (.mul (.mul (.mul (.v 0) (.v 1)) (.v 2)) (.pw (.v 4) 2))) (.mul (.mul (.mul (.mul (.mul (.c (-8)) (.v 0)) (.v 1)) (.v 2)) (.v 4)) (.v 5))))) (.add (.add (.mul (.mul (.mul (.mul (.mul (.c (-6)) (.v 0)) (.v 1)) (.v 2)) (.v 4)) (.v 6)) (.add (.neg (.mul (.mul (.mul (.v 0) (.v 1)) (.v 2)) (.pw (.v 5) 2))) (.mul (.mul (.mul (.mul (.mul (.c 6) (.v 0)) (.v 1)) (.v 2)) (.v 5)) (.v 6)))) (.add (.mul (.mul (.mul (.mul (.c 6) (.v 0)) (.v 1)) (.v 2)) (.pw (.v 6) 2)) (.add (.mul (.mul (.mul (.mul (.c (-6)) (.v 0)) (.v 1)) (.v 3)) (.v 4)) (.mul (.mul (.mul (.mul (.c 2) (.v 0)) (.v 1)) (.v 3)) (.v 5)))))))) (.add (.add (.add (.add (.add (.neg (.mul (.mul (.v 0) (.v 1)) (.pw (.v 4) 4))) (.mul (.mul (.mul (.v 0) (.v 1)) (.pw (.v 4) 3)) (.v 5))) (.add (.mul (.mul (.mul (.mul (.c 5) (.v 0)) (.v 1)) (.pw (.v 4) 3)) (.v 6)) (.add (.mul (.mul (.mul (.mul (.c 2) (.v 0)) (.v 1)) (.pw (.v 4) 2)) (.pw (.v 5) 2)) (.mul (.mul (.mul (.mul (.mul (.c (-3)) (.v 0)) (.v 1)) (.pw (.v 4) 2)) (.v 5)) (.v 6))))) (.add (.add (.mul (.mul (.mul (.mul (.c (-4)) (.v 0)) (.v 1)) (.pw (.v 4) 2)) (.pw (.v 6) 2)) (.add (.mul (.mul (.mul (.v 0) (.v 1)) (.v 4)) (.pw (.v 5) 3)) (.mul (.mul (.mul (.mul (.mul (.c 3) (.v 0)) (.v 1)) (.v 4)) (.pw (.v 5) 2)) (.v 6)))) (.add (.mul (.mul (.v 0) (.v 1)) (.pw (.v 5) 4)) (.add (.neg (.mul (.mul (.mul (.v 0) (.v 1)) (.pw (.v 5) 3)) (.v 6))) (.mul (.mul (.mul (.mul (.c (-2)) (.v 0)) (.v 1)) (.pw (.v 5) 2)) (.pw (.v 6) 2)))))) (.add (.add (.add (.mul (.mul (.c (-5)) (.v 0)) (.pw (.v 2) 3)) (.add (.mul (.mul (.mul (.c 3) (.v 0)) (.pw (.v 2) 2)) (.pw (.v 4) 2)) (.mul (.mul (.mul (.mul (.c (-4)) (.v 0)) (.pw (.v 2) 2)) (.v 4)) (.v 5)))) (.add (.mul (.mul (.mul (.mul (.c (-2)) (.v 0)) (.pw (.v 2) 2)) (.v 4)) (.v 6)) (.add (.mul (.mul (.mul (.c 5) (.v 0)) (.pw (.v 2) 2)) (.pw (.v 5) 2)) (.mul (.mul (.mul (.mul (.c 4) (.v 0)) (.pw (.v 2) 2)) (.v 5)) (.v 6))))) (.add (.add (.mul (.mul (.mul (.c 3) (.v 0)) (.pw (.v 2) 2)) (.pw (.v 6) 2)) (.add (.mul (.mul (.mul (.mul (.c (-4)) (.v 0)) (.v 2)) (.v 3)) (.v 4)) (.mul (.mul (.mul (.mul (.c 4) (.v 0)) (.v 2)) (.v 3)) (.v 5)))) (.add (.mul (.mul (.mul (.mul (.c 5) (.v 0)) (.v 2)) (.pw (.v 4) 3)) (.v 5)) (.add (.mul (.mul (.mul (.mul (.c 5) (.v 0)) (.v 2)) (.pw (.v 4) 3)) (.v 6)) (.mul (.mul (.mul (.mul (.mul (.c (-3)) (.v 0)) (.v 2)) (.pw (.v 4) 2)) (.v 5)) (.v 6))))))) (.add (.add (.add (.add (.mul (.mul (.mul (.mul (.c (-4)) (.v 0)) (.v 2)) (.pw (.v 4) 2)) (.pw (.v 6) 2)) (.add (.mul (.mul (.mul (.mul (.c 3) (.v 0)) (.v 2)) (.v 4)) (.pw (.v 5) 3)) (.mul (.mul (.mul (.mul (.v 0) (.v 2)) (.v 4)) (.pw (.v 5) 2)) (.v 6)))) (.add (.neg (.mul (.mul (.v 0) (.v 2)) (.pw (.v 5) 4))) (.add (.mul (.mul (.mul (.mul (.c (-3)) (.v 0)) (.v 2)) (.pw (.v 5) 3)) (.v 6)) (.mul (.mul (.mul (.mul (.c (-2)) (.v 0)) (.v 2)) (.pw (.v 5) 2)) (.pw (.v 6) 2))))) (.add (.add (.mul (.mul (.mul (.c 2) (.v 0)) (.v 3)) (.pw (.v 4) 3)) (.add (.mul (.mul (.mul (.mul (.c 2) (.v 0)) (.v 3)) (.pw (.v 4) 2)) (.v 6)) (.mul (.mul (.mul (.mul (.c 4) (.v 0)) (.v 3)) (.v 4)) (.pw (.v 5) 2)))) (.add (.mul (.mul (.mul (.c (-2)) (.v 0)) (.v 3)) (.pw (.v 5) 3)) (.add (.mul (.mul (.mul (.mul (.c (-2)) (.v 0)) (.v 3)) (.pw (.v 5) 2)) (.v 6)) (.mul (.v 0) (.pw (.v 4) 6)))))) (.add (.add (.add (.mul (.mul (.mul (.c (-2)) (.v 0)) (.pw (.v 4) 5)) (.v 6)) (.add (.neg (.mul (.mul (.v 0) (.pw (.v 4) 4)) (.pw (.v 5) 2))) (.mul (.mul (.v 0) (.pw (.v 4) 4)) (.pw (.v 6) 2)))) (.add (.mul (.mul (.mul (.c (-2)) (.v 0)) (.pw (.v 4) 3)) (.pw (.v 5) 3)) (.add (.mul (.mul (.mul (.mul (.c (-2)) (.v 0)) (.pw (.v 4) 3)) (.pw (.v 5) 2)) (.v 6)) (.mul (.mul (.mul (.mul (.c 2) (.v 0)) (.pw (.v 4) 2)) (.pw (.v 5) 3)) (.v 6))))) (.add (.add (.mul (.mul (.mul (.mul (.c 2) (.v 0)) (.pw (.v 4) 2)) (.pw (.v 5) 2)) (.pw (.v 6) 2)) (.add (.pw (.v 1) 4) (.mul (.pw (.v 1) 3) (.v 2)))) (.add (.neg (.mul (.pw (.v 1) 3) (.pw (.v 4) 2))) (.add (.neg (.mul (.mul (.pw (.v 1) 3) (.v 4)) (.v 5))) (.neg (.mul (.mul (.pw (.v 1) 3) (.v 4)) (.v 6)))))))))) (.add (.add (.add (.add (.add (.add (.mul (.mul (.c (-2)) (.pw (.v 1) 3)) (.pw (.v 5) 2)) (.mul (.mul (.pw (.v 1) 3) (.v 5)) (.v 6))) (.add (.mul (.pw (.v 1) 3) (.pw (.v 6) 2)) (.add (.mul (.mul (.c (-3)) (.pw (.v 1) 2)) (.pw (.v 2) 2)) (.neg (.mul (.mul (.pw (.v 1) 2) (.v 2)) (.pw (.v 4) 2)))))) (.add (.add (.mul (.mul (.mul (.mul (.c (-6)) (.pw (.v 1) 2)) (.v 2)) (.v 4)) (.v 5)) (.add (.mul (.mul (.mul (.mul (.c (-2)) (.pw (.v 1) 2)) (.v 2)) (.v 4)) (.v 6)) (.mul (.mul (.mul (.c (-2)) (.pw (.v 1) 2)) (.v 2)) (.pw (.v 5) 2)))) (.add (.mul (.mul (.mul (.mul (.c 4) (.pw (.v 1) 2)) (.v 2)) (.v 5)) (.v 6)) (.add (.mul (.mul (.mul (.c 3) (.pw (.v 1) 2)) (.v 2)) (.pw (.v 6) 2)) (.mul (.mul (.mul (.c (-2)) (.pw (.v 1) 2)) (.v 3)) (.v 4)))))) (.add (.add (.add (.mul (.mul (.mul (.c 2) (.pw (.v 1) 2)) (.v 3)) (.v 5)) (.add (.mul (.mul (.c 2) (.pw (.v 1) 2)) (.pw (.v 4) 4)) (.mul (.mul (.mul (.c 5) (.pw (.v 1) 2)) (.pw (.v 4) 3)) (.v 5)))) (.add (.mul (.mul (.pw (.v 1) 2) (.pw (.v 4) 3)) (.v 6)) (.add (.mul (.mul (.pw (.v 1) 2) (.pw (.v 4) 2)) (.pw (.v 5) 2)) (.mul (.mul (.mul (.mul (.c (-3)) (.pw (.v 1) 2)) (.pw (.v 4) 2)) (.v 5)) (.v 6))))) (.add (.add (.mul (.mul (.mul (.c (-2)) (.pw (.v 1) 2)) (.pw (.v 4) 2)) (.pw (.v 6) 2)) (.add (.mul (.mul (.mul (.c (-2)) (.pw (.v 1) 2)) (.v 4)) (.pw (.v 5) 3)) (.mul (.mul (.mul (.mul (.c 2) (.pw (.v 1) 2)) (.v 4)) (.pw (.v 5) 2)) (.v 6)))) (.add (.neg (.mul (.mul (.pw (.v 1) 2) (.pw (.v 5) 2)) (.pw (.v 6) 2))) (.add (.mul (.mul (.c (-5)) (.v 1)) (.pw (.v 2) 3)) (.mul (.mul (.mul (.c 3) (.v 1)) (.pw (.v 2) 2)) (.pw (.v 4) 2))))))) (.add (.add (.add (.add (.mul (.mul (.mul (.mul (.c (-5)) (.v 1)) (.pw (.v 2) 2)) (.v 4)) (.v 5)) (.add (.neg (.mul (.mul (.mul (.v 1) (.pw (.v 2) 2)) (.v 4)) (.v 6))) (.mul (.mul (.mul (.c 4) (.v 1)) (.pw (.v 2) 2)) (.pw (.v 5) 2)))) (.add (.mul (.mul (.mul (.mul (.c 5) (.v 1)) (.pw (.v 2) 2)) (.v 5)) (.v 6)) (.add (.mul (.mul (.mul (.c 3) (.v 1)) (.pw (.v 2) 2)) (.pw (.v 6) 2)) (.mul (.mul (.mul (.mul (.c (-2)) (.v 1)) (.v 2)) (.v 3)) (.v 4))))) (.add (.add (.mul (.mul (.mul (.mul (.c 6) (.v 1)) (.v 2)) (.v 3)) (.v 5)) (.add (.mul (.mul (.mul (.mul (.c 4) (.v 1)) (.v 2)) (.pw (.v 4) 3)) (.v 5)) (.mul (.mul (.mul (.mul (.c 2) (.v 1)) (.v 2)) (.pw (.v 4) 3)) (.v 6)))) (.add (.neg (.mul (.mul (.mul (.v 1) (.v 2)) (.pw (.v 4) 2)) (.pw (.v 5) 2))) (.add (.mul (.mul (.mul (.mul (.mul (.c (-6)) (.v 1)) (.v 2)) (.pw (.v 4) 2)) (.v 5)) (.v 6)) (.mul (.mul (.mul (.mul (.c (-4)) (.v 1)) (.v 2)) (.pw (.v 4) 2)) (.pw (.v 6) 2)))))) (.add (.add (.add (.mul (.mul (.mul (.mul (.c 6) (.v 1)) (.v 2)) (.v 4)) (.pw (.v 5) 3)) (.add (.mul (.mul (.mul (.mul (.mul (.c 2) (.v 1)) (.v 2)) (.v 4)) (.pw (.v 5) 2)) (.v 6)) (.mul (.mul (.mul (.c 2) (.v 1)) (.v 2)) (.pw (.v 5) 4)))) (.add (.mul (.mul (.mul (.mul (.c (-2)) (.v 1)) (.v 2)) (.pw (.v 5) 3)) (.v 6)) (.add (.mul (.mul (.mul (.mul (.c (-2)) (.v 1)) (.v 2)) (.pw (.v 5) 2)) (.pw (.v 6) 2)) (.mul (.mul (.mul (.c (-4)) (.v 1)) (.v 3)) (.pw (.v 4) 3))))) (.add (.add (.mul (.mul (.mul (.mul (.c (-6)) (.v 1)) (.v 3)) (.pw (.v 4) 2)) (.v 5)) (.add (.mul (.mul (.mul (.mul (.c 2) (.v 1)) (.v 3)) (.pw (.v 4) 2)) (.v 6)) (.mul (.mul (.mul (.mul (.c 8) (.v 1)) (.v 3)) (.v 4)) (.pw (.v 5) 2)))) (.add (.mul (.mul (.mul (.c 2) (.v 1)) (.v 3)) (.pw (.v 5) 3)) (.add (.mul (.mul (.mul (.mul (.c (-2)) (.v 1)) (.v 3)) (.pw (.v 5) 2)) (.v 6)) (.neg (.mul (.v 1) (.pw (.v 4) 6))))))))) (.add (.add (.add (.add (.add (.mul (.mul (.mul (.c (-2)) (.v 1)) (.pw (.v 4) 5)) (.v 5)) (.mul (.mul (.v 1) (.pw (.v 4) 4)) (.pw (.v 5) 2))) (.add (.mul (.mul (.mul (.mul (.c 2) (.v 1)) (.pw (.v 4) 4)) (.v 5)) (.v 6)) (.add (.mul (.mul (.v 1) (.pw (.v 4) 4)) (.pw (.v 6) 2)) (.neg (.mul (.mul (.v 1) (.pw (.v 4) 3)) (.pw (.v 5) 3)))))) (.add (.add (.mul (.mul (.mul (.mul (.c (-3)) (.v 1)) (.pw (.v 4) 3)) (.pw (.v 5) 2)) (.v 6)) (.add (.neg (.mul (.mul (.v 1) (.pw (.v 4) 2)) (.pw (.v 5) 4))) (.mul (.mul (.mul (.v 1) (.pw (.v 4) 2)) (.pw (.v 5) 3)) (.v 6)))) (.add (.mul (.mul (.mul (.mul (.c 2) (.v 1)) (.pw (.v 4) 2)) (.pw (.v 5) 2)) (.pw (.v 6) 2)) (.add (.mul (.c (-2)) (.pw (.v 2) 4)) (.mul (.mul (.c 3) (.pw (.v 2) 3)) (.pw (.v 4) 2)))))) (.add (.add (.add (.mul (.mul (.c 4) (.pw (.v 2) 3)) (.pw (.v 5) 2)) (.add (.mul (.mul (.mul (.c 2) (.pw (.v 2) 3)) (.v 5)) (.v 6)) (.mul (.pw (.v 2) 3) (.pw (.v 6) 2)))) (.add (.mul (.mul (.mul (.c 4) (.pw (.v 2) 2)) (.v 3)) (.v 5)) (.add (.mul (.mul (.mul (.c 3) (.pw (.v 2) 2)) (.pw (.v 4) 3)) (.v 5)) (.mul (.mul (.pw (.v 2) 2) (.pw (.v 4) 3)) (.v 6))))) (.add (.add (.mul (.mul (.mul (.c (-4)) (.pw (.v 2) 2)) (.pw (.v 4) 2)) (.pw (.v 5) 2)) (.add (.mul (.mul (.mul (.mul (.c (-3)) (.pw (.v 2) 2)) (.pw (.v 4) 2)) (.v 5)) (.v 6)) (.mul (.mul (.mul (.c (-2)) (.pw (.v 2) 2)) (.pw (.v 4) 2)) (.pw (.v 6) 2)))) (.add (.mul (.mul (.c (-2)) (.pw (.v 2) 2)) (.pw (.v 5) 4)) (.add (.mul (.mul (.mul (.c (-2)) (.pw (.v 2) 2)) (.pw (.v 5) 3)) (.v 6)) (.neg (.mul (.mul (.pw (.v 2) 2) (.pw (.v 5) 2)) (.pw (.v 6) 2)))))))) (.add (.add (.add (.add (.mul (.mul (.mul (.c 2) (.v 2)) (.v 3)) (.pw (.v 4) 3)) (.add (.mul (.mul (.mul (.mul (.c 2) (.v 2)) (.v 3)) (.pw (.v 4) 2)) (.v 6)) (.mul (.mul (.mul (.c (-6)) (.v 2)) (.v 3)) (.pw (.v 5) 3)))) (.add (.mul (.mul (.mul (.mul (.c (-2)) (.v 2)) (.v 3)) (.pw (.v 5) 2)) (.v 6)) (.add (.neg (.mul (.mul (.v 2) (.pw (.v 4) 5)) (.v 5))) (.neg (.mul (.mul (.v 2) (.pw (.v 4) 5)) (.v 6)))))) (.add (.add (.mul (.mul (.mul (.v 2) (.pw (.v 4) 4)) (.v 5)) (.v 6)) (.add (.mul (.mul (.v 2) (.pw (.v 4) 4)) (.pw (.v 6) 2)) (.mul (.mul (.mul (.c (-3)) (.v 2)) (.pw (.v 4) 3)) (.pw (.v 5) 3)))) (.add (.neg (.mul (.mul (.mul (.v 2) (.pw (.v 4) 3)) (.pw (.v 5) 2)) (.v 6))) (.add (.mul (.mul (.v 2) (.pw (.v 4) 2)) (.pw (.v 5) 4)) (.mul (.mul (.mul (.mul (.c 3) (.v 2)) (.pw (.v 4) 2)) (.pw (.v 5) 3)) (.v 6)))))) (.add (.add (.add (.mul (.mul (.mul (.mul (.c 2) (.v 2)) (.pw (.v 4) 2)) (.pw (.v 5) 2)) (.pw (.v 6) 2)) (.add (.mul (.mul (.c 4) (.pw (.v 3) 2)) (.pw (.v 4) 2)) (.mul (.mul (.c (-4)) (.pw (.v 3) 2)) (.pw (.v 5) 2)))) (.add (.mul (.mul (.c 2) (.v 3)) (.pw (.v 4) 5)) (.add (.mul (.mul (.mul (.c (-2)) (.v 3)) (.pw (.v 4) 4)) (.v 6)) (.mul (.mul (.mul (.c (-4)) (.v 3)) (.pw (.v 4) 3)) (.pw (.v 5) 2))))) (.add (.add (.mul (.mul (.mul (.c 2) (.v 3)) (.pw (.v 4) 2)) (.pw (.v 5) 3)) (.add (.mul (.mul (.mul (.mul (.c 2) (.v 3)) (.pw (.v 4) 2)) (.pw (.v 5) 2)) (.v 6)) (.mul (.pw (.v 4) 5) (.pw (.v 5) 3)))) (.add (.mul (.mul (.pw (.v 4) 5) (.pw (.v 5) 2)) (.v 6)) (.add (.neg (.mul (.mul (.pw (.v 4) 4) (.pw (.v 5) 3)) (.v 6))) (.neg (.mul (.mul (.pw (.v 4) 4) (.pw (.v 5) 2)) (.pw (.v 6) 2))))))))))),.sub (.mul (.v 6) (.sub (.sub (.sub (.mul (.v 4) (.v 4)) (.v 0)) (.v 1)) (.v 2))) (.sub (.sub (.mul (.v 4) (.sub (.v 1) (.sub (.sub (.mul (.v 4) (.v 4)) (.v 0)) (.v 1)))) (.v 3)) (.add (.v 3) (.mul (.v 5) (.sub (.v 2) (.v 1)))))),
  ((.add (.add (.add (.add (.add (.neg (.mul (.pw (.v 0) 3) (.v 1))) (.add (.mul (.pw (.v 0) 3) (.v 2)) (.mul (.pw (.v 0) 3) (.pw (.v 4) 2)))) (.add (.neg (.mul (.pw (.v 0) 3) (.pw (.v 6) 2))) (.add (.mul (.mul (.c (-3)) (.pw (.v 0) 2)) (.pw (.v 1) 2)) (.mul (.mul (.mul (.c 6) (.pw (.v 0) 2)) (.v 1)) (.pw (.v 4) 2))))) (.add (.add (.mul (.mul (.mul (.c (-3)) (.pw (.v 0) 2)) (.v 1)) (.pw (.v 6) 2)) (.add (.mul (.mul (.c 3) (.pw (.v 0) 2)) (.pw (.v 2) 2)) (.mul (.mul (.mul (.c (-3)) (.pw (.v 0) 2)) (.v 2)) (.pw (.v 6) 2)))) (.add (.mul (.mul (.c (-3)) (.pw (.v 0) 2)) (.pw (.v 4) 4)) (.add (.mul (.mul (.mul (.c 3) (.pw (.v 0) 2)) (.pw (.v 4) 2)) (.pw (.v 6) 2)) (.mul (.mul (.c (-3)) (.v 0)) (.pw (.v 1) 3)))))) (.add (.add (.add (.mul (.mul (.mul (.c (-3)) (.v 0)) (.pw (.v 1) 2)) (.v 2)) (.add (.mul (.mul (.mul (.c 9) (.v 0)) (.pw (.v 1) 2)) (.pw (.v 4) 2)) (.mul (.mul (.mul (.c (-3)) (.v 0)) (.pw (.v 1) 2)) (.pw (.v 6) 2)))) (.add (.mul (.mul (.mul (.c 3) (.v 0)) (.v 1)) (.pw (.v 2) 2)) (.add (.mul (.mul (.mul (.mul (.c 6) (.v 0)) (.v 1)) (.v 2)) (.pw (.v 4) 2)) (.mul (.mul (.mul (.mul (.c (-6)) (.v 0)) (.v 1)) (.v 2)) (.pw (.v 6) 2))))) (.add (.add (.mul (.mul (.mul (.c (-9)) (.v 0)) (.v 1)) (.pw (.v 4) 4)) (.add (.mul (.mul (.mul (.mul (.c 6) (.v 0)) (.v 1)) (.pw (.v 4) 2)) (.pw (.v 6) 2)) (.mul (.mul (.c 3) (.v 0)) (.pw (.v 2) 3)))) (.add (.mul (.mul (.mul (.c (-3)) (.v 0)) (.pw (.v 2) 2)) (.pw (.v 4) 2)) (.add (.mul (.mul (.mul (.c (-3)) (.v 0)) (.pw (.v 2) 2)) (.pw (.v 6) 2)) (.mul (.mul (.mul (.c (-3)) (.v 0)) (.v 2)) (.pw (.v 4) 4))))))) (.add (.add (.add (.add (.mul (.mul (.mul (.mul (.c 6) (.v 0)) (.v 2)) (.pw (.v 4) 2)) (.pw (.v 6) 2)) (.add (.mul (.mul (.c 3) (.v 0)) (.pw (.v 4) 6)) (.mul (.mul (.mul (.c (-3)) (.v 0)) (.pw (.v 4) 4)) (.pw (.v 6) 2)))) (.add (.neg (.pw (.v 1) 4)) (.add (.mul (.mul (.c (-2)) (.pw (.v 1) 3)) (.v 2)) (.mul (.mul (.c 4) (.pw (.v 1) 3)) (.pw (.v 4) 2))))) (.add (.add (.neg (.mul (.pw (.v 1) 3) (.pw (.v 6) 2))) (.add (.mul (.mul (.mul (.c 6) (.pw (.v 1) 2)) (.v 2)) (.pw (.v 4) 2)) (.mul (.mul (.mul (.c (-3)) (.pw (.v 1) 2)) (.v 2)) (.pw (.v 6) 2)))) (.add (.mul (.mul (.c (-6)) (.pw (.v 1) 2)) (.pw (.v 4) 4)) (.add (.mul (.mul (.mul (.c 3) (.pw (.v 1) 2)) (.pw (.v 4) 2)) (.pw (.v 6) 2)) (.mul (.mul (.c 2) (.v 1)) (.pw (.v 2) 3)))))) (.add (.add (.add (.mul (.mul (.mul (.c (-3)) (.v 1)) (.pw (.v 2) 2)) (.pw (.v 6) 2)) (.add (.mul (.mul (.mul (.c (-6)) (.v 1)) (.v 2)) (.pw (.v 4) 4)) (.mul (.mul (.mul (.mul (.c 6) (.v 1)) (.v 2)) (.pw (.v 4) 2)) (.pw (.v 6) 2)))) (.add (.mul (.mul (.c 4) (.v 1)) (.pw (.v 4) 6)) (.add (.mul (.mul (.mul (.c (-3)) (.v 1)) (.pw (.v 4) 4)) (.pw (.v 6) 2)) (.pw (.v 2) 4)))) (.add (.add (.mul (.mul (.c (-2)) (.pw (.v 2) 3)) (.pw (.v 4) 2)) (.add (.neg (.mul (.pw (.v 2) 3) (.pw (.v 6) 2))) (.mul (.mul (.mul (.c 3) (.pw (.v 2) 2)) (.pw (.v 4) 2)) (.pw (.v 6) 2)))) (.add (.add (.mul (.mul (.c 2) (.v 2)) (.pw (.v 4) 6)) (.mul (.mul (.mul (.c (-3)) (.v 2)) (.pw (.v 4) 4)) (.pw (.v 6) 2))) (.add (.neg (.pw (.v 4) 8)) (.mul (.pw (.v 4) 6) (.pw (.v 6) 2)))))))),.sub (.mul (.v 7) (.sub (.sub (.sub (.mul (.v 5) (.v 5)) (.v 1)) (.v 2)) (.v 0))) (.sub (.sub (.mul (.v 5) (.sub (.v 1) (.sub (.sub (.mul (.v 5) (.v 5)) (.v 1)) (.v 2)))) (.v 3)) (.add (.v 3) (.mul (.v 4) (.sub (.v 0) (.v 1))))))] ⟨AZ.2 r1,AZ.2 r2,AZ.2 hs,AZ.2 ht,trivial⟩ (by kernel_rfl))
theorem spX {F:Type} [CR F] (x h m k s:F) (r2:(((m*k)*h)+((m*k)*h))=(((x*x)+(x*(x+(h+h))))+((x+(h+h))*(x+(h+h))))) (rs:((((k+m)*h)+((k+m)*h))*s)=((((x+(h+h))*(x+(h+h)))+((x+(h+h))*(x+(h+h))))+((x+(h+h))*(x+(h+h))))):(((((k+m)*h)+((k+m)*h))*(((k+m)*h)+((k+m)*h)))*((((((m*m)-x)-(x+(h+h)))-(((k*k)-x)-(x+(h+h))))*((((m*m)-x)-(x+(h+h)))-(((k*k)-x)-(x+(h+h)))))*(((s*s)-(x+(h+h)))-(x+(h+h)))))=(((((k+m)*h)+((k+m)*h))*(((k+m)*h)+((k+m)*h)))*(((((m*(x-(((m*m)-x)-(x+(h+h)))))-((k-m)*h))-((k*(x-(((k*k)-x)-(x+(h+h)))))+((k-m)*h)))*(((m*(x-(((m*m)-x)-(x+(h+h)))))-((k-m)*h))-((k*(x-(((k*k)-x)-(x+(h+h)))))+((k-m)*h))))-((((((m*m)-x)-(x+(h+h)))-(((k*k)-x)-(x+(h+h))))*((((m*m)-x)-(x+(h+h)))-(((k*k)-x)-(x+(h+h)))))*((((k*k)-x)-(x+(h+h)))+(((m*m)-x)-(x+(h+h))))))) :=
 AZ.1 (BF [x,h,m,k,s] (.sub (.mul (.mul (.add (.mul (.add (.v 3) (.v 2)) (.v 1)) (.mul (.add (.v 3) (.v 2)) (.v 1))) (.add (.mul (.add (.v 3) (.v 2)) (.v 1)) (.mul (.add (.v 3) (.v 2)) (.v 1)))) (.mul (.mul (.sub (.sub (.sub (.mul (.v 2) (.v 2)) (.v 0)) (.add (.v 0) (.add (.v 1) (.v 1)))) (.sub (.sub (.mul (.v 3) (.v 3)) (.v 0)) (.add (.v 0) (.add (.v 1) (.v 1))))) (.sub (.sub (.sub (.mul (.v 2) (.v 2)) (.v 0)) (.add (.v 0) (.add (.v 1) (.v 1)))) (.sub (.sub (.mul (.v 3) (.v 3)) (.v 0)) (.add (.v 0) (.add (.v 1) (.v 1)))))) (.sub (.sub (.mul (.v 4) (.v 4)) (.add (.v 0) (.add (.v 1) (.v 1)))) (.add (.v 0) (.add (.v 1) (.v 1)))))) (.mul (.mul (.add (.mul (.add (.v 3) (.v 2)) (.v 1)) (.mul (.add (.v 3) (.v 2)) (.v 1))) (.add (.mul (.add (.v 3) (.v 2)) (.v 1)) (.mul (.add (.v 3) (.v 2)) (.v 1)))) (.sub (.mul (.sub (.sub (.mul (.v 2) (.sub (.v 0) (.sub (.sub (.mul (.v 2) (.v 2)) (.v 0)) (.add (.v 0) (.add (.v 1) (.v 1)))))) (.mul (.sub (.v 3) (.v 2)) (.v 1))) (.add (.mul (.v 3) (.sub (.v 0) (.sub (.sub (.mul (.v 3) (.v 3)) (.v 0)) (.add (.v 0) (.add (.v 1) (.v 1)))))) (.mul (.sub (.v 3) (.v 2)) (.v 1)))) (.sub (.sub (.mul (.v 2) (.sub (.v 0) (.sub (.sub (.mul (.v 2) (.v 2)) (.v 0)) (.add (.v 0) (.add (.v 1) (.v 1)))))) (.mul (.sub (.v 3) (.v 2)) (.v 1))) (.add (.mul (.v 3) (.sub (.v 0) (.sub (.sub (.mul (.v 3) (.v 3)) (.v 0)) (.add (.v 0) (.add (.v 1) (.v 1)))))) (.mul (.sub (.v 3) (.v 2)) (.v 1))))) (.mul (.mul (.sub (.sub (.sub (.mul (.v 2) (.v 2)) (.v 0)) (.add (.v 0) (.add (.v 1) (.v 1)))) (.sub (.sub (.mul (.v 3) (.v 3)) (.v 0)) (.add (.v 0) (.add (.v 1) (.v 1))))) (.sub (.sub (.sub (.mul (.v 2) (.v 2)) (.v 0)) (.add (.v 0) (.add (.v 1) (.v 1)))) (.sub (.sub (.mul (.v 3) (.v 3)) (.v 0)) (.add (.v 0) (.add (.v 1) (.v 1)))))) (.add (.sub (.sub (.mul (.v 3) (.v 3)) (.v 0)) (.add (.v 0) (.add (.v 1) (.v 1)))) (.sub (.sub (.mul (.v 2) (.v 2)) (.v 0)) (.add (.v 0) (.add (.v 1) (.v 1))))))))) [((.add (.add (.add (.mul (.mul (.c (-3)) (.pw (.v 0) 2)) (.pw (.v 2) 4)) (.add (.mul (.mul (.mul (.c 6) (.pw (.v 0) 2)) (.pw (.v 2) 2)) (.pw (.v 3) 2)) (.mul (.mul (.c (-3)) (.pw (.v 0) 2)) (.pw (.v 3) 4)))) (.add (.mul (.mul (.mul (.c (-18)) (.v 0)) (.v 1)) (.pw (.v 2) 4)) (.add (.mul (.mul (.mul (.mul (.c 36) (.v 0)) (.v 1)) (.pw (.v 2) 2)) (.pw (.v 3) 2)) (.mul (.mul (.mul (.c (-18)) (.v 0)) (.v 1)) (.pw (.v 3) 4))))) (.add (.add (.mul (.mul (.c (-20)) (.pw (.v 1) 2)) (.pw (.v 2) 4)) (.add (.mul (.mul (.mul (.c 40) (.pw (.v 1) 2)) (.pw (.v 2) 2)) (.pw (.v 3) 2)) (.mul (.mul (.c (-20)) (.pw (.v 1) 2)) (.pw (.v 3) 4)))) (.add (.mul (.mul (.mul (.c (-2)) (.v 1)) (.pw (.v 2) 5)) (.v 3)) (.add (.mul (.mul (.mul (.c 4) (.v 1)) (.pw (.v 2) 3)) (.pw (.v 3) 3)) (.mul (.mul (.mul (.c (-2)) (.v 1)) (.v 2)) (.pw (.v 3) 5)))))),.sub (.add (.mul (.mul (.v 2) (.v 3)) (.v 1)) (.mul (.mul (.v 2) (.v 3)) (.v 1))) (.add (.add (.mul (.v 0) (.v 0)) (.mul (.v 0) (.add (.v 0) (.add (.v 1) (.v 1))))) (.mul (.add (.v 0) (.add (.v 1) (.v 1))) (.add (.v 0) (.add (.v 1) (.v 1)))))),
  ((.add (.add (.add (.mul (.mul (.c 3) (.pw (.v 0) 2)) (.pw (.v 2) 4)) (.add (.mul (.mul (.mul (.c (-6)) (.pw (.v 0) 2)) (.pw (.v 2) 2)) (.pw (.v 3) 2)) (.mul (.mul (.c 3) (.pw (.v 0) 2)) (.pw (.v 3) 4)))) (.add (.add (.mul (.mul (.mul (.c 12) (.v 0)) (.v 1)) (.pw (.v 2) 4)) (.mul (.mul (.mul (.mul (.c (-24)) (.v 0)) (.v 1)) (.pw (.v 2) 2)) (.pw (.v 3) 2))) (.add (.mul (.mul (.mul (.c 12) (.v 0)) (.v 1)) (.pw (.v 3) 4)) (.mul (.mul (.c 12) (.pw (.v 1) 2)) (.pw (.v 2) 4))))) (.add (.add (.add (.mul (.mul (.mul (.c (-24)) (.pw (.v 1) 2)) (.pw (.v 2) 2)) (.pw (.v 3) 2)) (.mul (.mul (.c 12) (.pw (.v 1) 2)) (.pw (.v 3) 4))) (.add (.mul (.mul (.mul (.c 2) (.v 1)) (.pw (.v 2) 5)) (.v 4)) (.mul (.mul (.mul (.mul (.c 2) (.v 1)) (.pw (.v 2) 4)) (.v 3)) (.v 4)))) (.add (.add (.mul (.mul (.mul (.mul (.c (-4)) (.v 1)) (.pw (.v 2) 3)) (.pw (.v 3) 2)) (.v 4)) (.mul (.mul (.mul (.mul (.c (-4)) (.v 1)) (.pw (.v 2) 2)) (.pw (.v 3) 3)) (.v 4))) (.add (.mul (.mul (.mul (.mul (.c 2) (.v 1)) (.v 2)) (.pw (.v 3) 4)) (.v 4)) (.mul (.mul (.mul (.c 2) (.v 1)) (.pw (.v 3) 5)) (.v 4)))))),.sub (.mul (.add (.mul (.add (.v 3) (.v 2)) (.v 1)) (.mul (.add (.v 3) (.v 2)) (.v 1))) (.v 4)) (.add (.add (.mul (.add (.v 0) (.add (.v 1) (.v 1))) (.add (.v 0) (.add (.v 1) (.v 1)))) (.mul (.add (.v 0) (.add (.v 1) (.v 1))) (.add (.v 0) (.add (.v 1) (.v 1))))) (.mul (.add (.v 0) (.add (.v 1) (.v 1))) (.add (.v 0) (.add (.v 1) (.v 1))))))] ⟨AZ.2 r2,AZ.2 rs,trivial⟩ (by kernel_rfl))
theorem spY {F:Type} [CR F] (x h m k s:F) (r2:(((m*k)*h)+((m*k)*h))=(((x*x)+(x*(x+(h+h))))+((x+(h+h))*(x+(h+h))))) (rs:((((k+m)*h)+((k+m)*h))*s)=((((x+(h+h))*(x+(h+h)))+((x+(h+h))*(x+(h+h))))+((x+(h+h))*(x+(h+h))))):((((((k+m)*h)+((k+m)*h))*(((k+m)*h)+((k+m)*h)))*(((k+m)*h)+((k+m)*h)))*(((((m*m)-x)-(x+(h+h)))-(((k*k)-x)-(x+(h+h))))*((s*((x+(h+h))-(((s*s)-(x+(h+h)))-(x+(h+h)))))-((k+m)*h))))=((((((k+m)*h)+((k+m)*h))*(((k+m)*h)+((k+m)*h)))*(((k+m)*h)+((k+m)*h)))*(((((m*(x-(((m*m)-x)-(x+(h+h)))))-((k-m)*h))-((k*(x-(((k*k)-x)-(x+(h+h)))))+((k-m)*h)))*((((k*k)-x)-(x+(h+h)))-(((s*s)-(x+(h+h)))-(x+(h+h)))))-(((((m*m)-x)-(x+(h+h)))-(((k*k)-x)-(x+(h+h))))*((k*(x-(((k*k)-x)-(x+(h+h)))))+((k-m)*h))))) :=
 AZ.1 (BF [x,h,m,k,s] (.sub (.mul (.mul (.mul (.add (.mul (.add (.v 3) (.v 2)) (.v 1)) (.mul (.add (.v 3) (.v 2)) (.v 1))) (.add (.mul (.add (.v 3) (.v 2)) (.v 1)) (.mul (.add (.v 3) (.v 2)) (.v 1)))) (.add (.mul (.add (.v 3) (.v 2)) (.v 1)) (.mul (.add (.v 3) (.v 2)) (.v 1)))) (.mul (.sub (.sub (.sub (.mul (.v 2) (.v 2)) (.v 0)) (.add (.v 0) (.add (.v 1) (.v 1)))) (.sub (.sub (.mul (.v 3) (.v 3)) (.v 0)) (.add (.v 0) (.add (.v 1) (.v 1))))) (.sub (.mul (.v 4) (.sub (.add (.v 0) (.add (.v 1) (.v 1))) (.sub (.sub (.mul (.v 4) (.v 4)) (.add (.v 0) (.add (.v 1) (.v 1)))) (.add (.v 0) (.add (.v 1) (.v 1)))))) (.mul (.add (.v 3) (.v 2)) (.v 1))))) (.mul (.mul (.mul (.add (.mul (.add (.v 3) (.v 2)) (.v 1)) (.mul (.add (.v 3) (.v 2)) (.v 1))) (.add (.mul (.add (.v 3) (.v 2)) (.v 1)) (.mul (.add (.v 3) (.v 2)) (.v 1)))) (.add (.mul (.add (.v 3) (.v 2)) (.v 1)) (.mul (.add (.v 3) (.v 2)) (.v 1)))) (.sub (.mul (.sub (.sub (.mul (.v 2) (.sub (.v 0) (.sub (.sub (.mul (.v 2) (.v 2)) (.v 0)) (.add (.v 0) (.add (.v 1) (.v 1)))))) (.mul (.sub (.v 3) (.v 2)) (.v 1))) (.add (.mul (.v 3) (.sub (.v 0) (.sub (.sub (.mul (.v 3) (.v 3)) (.v 0)) (.add (.v 0) (.add (.v 1) (.v 1)))))) (.mul (.sub (.v 3) (.v 2)) (.v 1)))) (.sub (.sub (.sub (.mul (.v 3) (.v 3)) (.v 0)) (.add (.v 0) (.add (.v 1) (.v 1)))) (.sub (.sub (.mul (.v 4) (.v 4)) (.add (.v 0) (.add (.v 1) (.v 1)))) (.add (.v 0) (.add (.v 1) (.v 1)))))) (.mul (.sub (.sub (.sub (.mul (.v 2) (.v 2)) (.v 0)) (.add (.v 0) (.add (.v 1) (.v 1)))) (.sub (.sub (.mul (.v 3) (.v 3)) (.v 0)) (.add (.v 0) (.add (.v 1) (.v 1))))) (.add (.mul (.v 3) (.sub (.v 0) (.sub (.sub (.mul (.v 3) (.v 3)) (.v 0)) (.add (.v 0) (.add (.v 1) (.v 1)))))) (.mul (.sub (.v 3) (.v 2)) (.v 1))))))) [((.add (.add (.add (.add (.mul (.mul (.c 9) (.pw (.v 0) 4)) (.pw (.v 2) 2)) (.add (.mul (.mul (.c (-9)) (.pw (.v 0) 4)) (.pw (.v 3) 2)) (.mul (.mul (.mul (.c 72) (.pw (.v 0) 3)) (.v 1)) (.pw (.v 2) 2)))) (.add (.mul (.mul (.mul (.c (-72)) (.pw (.v 0) 3)) (.v 1)) (.pw (.v 3) 2)) (.add (.mul (.mul (.mul (.c 216) (.pw (.v 0) 2)) (.pw (.v 1) 2)) (.pw (.v 2) 2)) (.mul (.mul (.mul (.c (-216)) (.pw (.v 0) 2)) (.pw (.v 1) 2)) (.pw (.v 3) 2))))) (.add (.add (.mul (.mul (.mul (.c 6) (.pw (.v 0) 2)) (.v 1)) (.pw (.v 2) 4)) (.add (.mul (.mul (.mul (.mul (.c 12) (.pw (.v 0) 2)) (.v 1)) (.pw (.v 2) 3)) (.v 3)) (.mul (.mul (.mul (.mul (.c (-12)) (.pw (.v 0) 2)) (.v 1)) (.v 2)) (.pw (.v 3) 3)))) (.add (.add (.mul (.mul (.mul (.c (-6)) (.pw (.v 0) 2)) (.v 1)) (.pw (.v 3) 4)) (.mul (.mul (.mul (.c 288) (.v 0)) (.pw (.v 1) 3)) (.pw (.v 2) 2))) (.add (.mul (.mul (.mul (.c (-288)) (.v 0)) (.pw (.v 1) 3)) (.pw (.v 3) 2)) (.mul (.mul (.mul (.c 24) (.v 0)) (.pw (.v 1) 2)) (.pw (.v 2) 4)))))) (.add (.add (.add (.mul (.mul (.mul (.mul (.c 48) (.v 0)) (.pw (.v 1) 2)) (.pw (.v 2) 3)) (.v 3)) (.add (.mul (.mul (.mul (.mul (.c (-48)) (.v 0)) (.pw (.v 1) 2)) (.v 2)) (.pw (.v 3) 3)) (.mul (.mul (.mul (.c (-24)) (.v 0)) (.pw (.v 1) 2)) (.pw (.v 3) 4)))) (.add (.mul (.mul (.c 144) (.pw (.v 1) 4)) (.pw (.v 2) 2)) (.add (.mul (.mul (.c (-144)) (.pw (.v 1) 4)) (.pw (.v 3) 2)) (.mul (.mul (.c 16) (.pw (.v 1) 3)) (.pw (.v 2) 4))))) (.add (.add (.mul (.mul (.mul (.c 32) (.pw (.v 1) 3)) (.pw (.v 2) 3)) (.v 3)) (.add (.mul (.mul (.mul (.c (-32)) (.pw (.v 1) 3)) (.v 2)) (.pw (.v 3) 3)) (.mul (.mul (.c (-16)) (.pw (.v 1) 3)) (.pw (.v 3) 4)))) (.add (.add (.mul (.mul (.mul (.c 4) (.pw (.v 1) 2)) (.pw (.v 2) 5)) (.v 3)) (.mul (.mul (.mul (.c 8) (.pw (.v 1) 2)) (.pw (.v 2) 4)) (.pw (.v 3) 2))) (.add (.mul (.mul (.mul (.c (-8)) (.pw (.v 1) 2)) (.pw (.v 2) 2)) (.pw (.v 3) 4)) (.mul (.mul (.mul (.c (-4)) (.pw (.v 1) 2)) (.v 2)) (.pw (.v 3) 5))))))),.sub (.add (.mul (.mul (.v 2) (.v 3)) (.v 1)) (.mul (.mul (.v 2) (.v 3)) (.v 1))) (.add (.add (.mul (.v 0) (.v 0)) (.mul (.v 0) (.add (.v 0) (.add (.v 1) (.v 1))))) (.mul (.add (.v 0) (.add (.v 1) (.v 1))) (.add (.v 0) (.add (.v 1) (.v 1)))))),
  ((.add (.add (.add (.add (.add (.mul (.mul (.c (-9)) (.pw (.v 0) 4)) (.pw (.v 2) 2)) (.mul (.mul (.c 9) (.pw (.v 0) 4)) (.pw (.v 3) 2))) (.add (.mul (.mul (.mul (.c (-54)) (.pw (.v 0) 3)) (.v 1)) (.pw (.v 2) 2)) (.add (.mul (.mul (.mul (.c 54) (.pw (.v 0) 3)) (.v 1)) (.pw (.v 3) 2)) (.mul (.mul (.mul (.c (-120)) (.pw (.v 0) 2)) (.pw (.v 1) 2)) (.pw (.v 2) 2))))) (.add (.add (.mul (.mul (.mul (.c 120) (.pw (.v 0) 2)) (.pw (.v 1) 2)) (.pw (.v 3) 2)) (.mul (.mul (.mul (.c (-6)) (.pw (.v 0) 2)) (.v 1)) (.pw (.v 2) 4))) (.add (.mul (.mul (.mul (.mul (.c (-6)) (.pw (.v 0) 2)) (.v 1)) (.pw (.v 2) 3)) (.v 3)) (.add (.mul (.mul (.mul (.mul (.c (-6)) (.pw (.v 0) 2)) (.v 1)) (.pw (.v 2) 3)) (.v 4)) (.mul (.mul (.mul (.mul (.mul (.c (-6)) (.pw (.v 0) 2)) (.v 1)) (.pw (.v 2) 2)) (.v 3)) (.v 4)))))) (.add (.add (.add (.mul (.mul (.mul (.mul (.c 6) (.pw (.v 0) 2)) (.v 1)) (.v 2)) (.pw (.v 3) 3)) (.mul (.mul (.mul (.mul (.mul (.c 6) (.pw (.v 0) 2)) (.v 1)) (.v 2)) (.pw (.v 3) 2)) (.v 4))) (.add (.mul (.mul (.mul (.c 6) (.pw (.v 0) 2)) (.v 1)) (.pw (.v 3) 4)) (.add (.mul (.mul (.mul (.mul (.c 6) (.pw (.v 0) 2)) (.v 1)) (.pw (.v 3) 3)) (.v 4)) (.mul (.mul (.mul (.c (-120)) (.v 0)) (.pw (.v 1) 3)) (.pw (.v 2) 2))))) (.add (.add (.mul (.mul (.mul (.c 120) (.v 0)) (.pw (.v 1) 3)) (.pw (.v 3) 2)) (.mul (.mul (.mul (.c (-12)) (.v 0)) (.pw (.v 1) 2)) (.pw (.v 2) 4))) (.add (.mul (.mul (.mul (.mul (.c (-12)) (.v 0)) (.pw (.v 1) 2)) (.pw (.v 2) 3)) (.v 4)) (.add (.mul (.mul (.mul (.mul (.mul (.c (-12)) (.v 0)) (.pw (.v 1) 2)) (.pw (.v 2) 2)) (.v 3)) (.v 4)) (.mul (.mul (.mul (.mul (.mul (.c 12) (.v 0)) (.pw (.v 1) 2)) (.v 2)) (.pw (.v 3) 2)) (.v 4))))))) (.add (.add (.add (.add (.mul (.mul (.mul (.c 12) (.v 0)) (.pw (.v 1) 2)) (.pw (.v 3) 4)) (.mul (.mul (.mul (.mul (.c 12) (.v 0)) (.pw (.v 1) 2)) (.pw (.v 3) 3)) (.v 4))) (.add (.mul (.mul (.c (-48)) (.pw (.v 1) 4)) (.pw (.v 2) 2)) (.add (.mul (.mul (.c 48) (.pw (.v 1) 4)) (.pw (.v 3) 2)) (.mul (.mul (.mul (.c 24) (.pw (.v 1) 3)) (.pw (.v 2) 3)) (.v 3))))) (.add (.add (.mul (.mul (.mul (.c (-8)) (.pw (.v 1) 3)) (.pw (.v 2) 3)) (.v 4)) (.mul (.mul (.mul (.mul (.c (-8)) (.pw (.v 1) 3)) (.pw (.v 2) 2)) (.v 3)) (.v 4))) (.add (.mul (.mul (.mul (.c (-24)) (.pw (.v 1) 3)) (.v 2)) (.pw (.v 3) 3)) (.add (.mul (.mul (.mul (.mul (.c 8) (.pw (.v 1) 3)) (.v 2)) (.pw (.v 3) 2)) (.v 4)) (.mul (.mul (.mul (.c 8) (.pw (.v 1) 3)) (.pw (.v 3) 3)) (.v 4)))))) (.add (.add (.add (.mul (.mul (.mul (.c (-4)) (.pw (.v 1) 2)) (.pw (.v 2) 5)) (.v 4)) (.mul (.mul (.mul (.mul (.c (-8)) (.pw (.v 1) 2)) (.pw (.v 2) 4)) (.v 3)) (.v 4))) (.add (.mul (.mul (.mul (.c (-4)) (.pw (.v 1) 2)) (.pw (.v 2) 4)) (.pw (.v 4) 2)) (.add (.mul (.mul (.mul (.mul (.c (-4)) (.pw (.v 1) 2)) (.pw (.v 2) 3)) (.pw (.v 3) 2)) (.v 4)) (.mul (.mul (.mul (.mul (.c (-8)) (.pw (.v 1) 2)) (.pw (.v 2) 3)) (.v 3)) (.pw (.v 4) 2))))) (.add (.add (.mul (.mul (.mul (.mul (.c 4) (.pw (.v 1) 2)) (.pw (.v 2) 2)) (.pw (.v 3) 3)) (.v 4)) (.mul (.mul (.mul (.mul (.c 8) (.pw (.v 1) 2)) (.v 2)) (.pw (.v 3) 4)) (.v 4))) (.add (.mul (.mul (.mul (.mul (.c 8) (.pw (.v 1) 2)) (.v 2)) (.pw (.v 3) 3)) (.pw (.v 4) 2)) (.add (.mul (.mul (.mul (.c 4) (.pw (.v 1) 2)) (.pw (.v 3) 5)) (.v 4)) (.mul (.mul (.mul (.c 4) (.pw (.v 1) 2)) (.pw (.v 3) 4)) (.pw (.v 4) 2)))))))),.sub (.mul (.add (.mul (.add (.v 3) (.v 2)) (.v 1)) (.mul (.add (.v 3) (.v 2)) (.v 1))) (.v 4)) (.add (.add (.mul (.add (.v 0) (.add (.v 1) (.v 1))) (.add (.v 0) (.add (.v 1) (.v 1)))) (.mul (.add (.v 0) (.add (.v 1) (.v 1))) (.add (.v 0) (.add (.v 1) (.v 1))))) (.mul (.add (.v 0) (.add (.v 1) (.v 1))) (.add (.v 0) (.add (.v 1) (.v 1))))))] ⟨AZ.2 r2,AZ.2 rs,trivial⟩ (by kernel_rfl))
theorem ALv {F:Type} [CR F] (y2 y3 h m k:F) (ha:(y3-y2)=(m*(h+h))) (hb:(y3+y2)=(k*(h+h))):((int 2)*y2)=((int 2)*((k-m)*h)) :=
 AZ.1 (BF [y2,y3,h,m,k] (.sub (.mul (.c 2) (.v 0)) (.mul (.c 2) (.mul (.sub (.v 4) (.v 3)) (.v 2)))) [((.c (-1)),.sub (.sub (.v 1) (.v 0)) (.mul (.v 3) (.add (.v 2) (.v 2)))),
  ((.c 1),.sub (.add (.v 1) (.v 0)) (.mul (.v 4) (.add (.v 2) (.v 2))))] ⟨AZ.2 ha,AZ.2 hb,trivial⟩ (by kernel_rfl))
theorem ALw {F:Type} [CR F] (y2 y3 h m k:F) (ha:(y3-y2)=(m*(h+h))) (hb:(y3+y2)=(k*(h+h))):((int 2)*y3)=((int 2)*((k+m)*h)) :=
 AZ.1 (BF [y2,y3,h,m,k] (.sub (.mul (.c 2) (.v 1)) (.mul (.c 2) (.mul (.add (.v 4) (.v 3)) (.v 2)))) [((.c 1),.sub (.sub (.v 1) (.v 0)) (.mul (.v 3) (.add (.v 2) (.v 2)))),
  ((.c 1),.sub (.add (.v 1) (.v 0)) (.mul (.v 4) (.add (.v 2) (.v 2))))] ⟨AZ.2 ha,AZ.2 hb,trivial⟩ (by kernel_rfl))
theorem ALx {F:Type} [CR F] (d i:F) (h:((int 2)*i)=(int 1)):((d*i)+(d*i))=d :=
 AZ.1 (BF [d,i] (.sub (.add (.mul (.v 0) (.v 1)) (.mul (.v 0) (.v 1))) (.v 0)) [((.v 0),.sub (.mul (.c 2) (.v 1)) (.c 1))] ⟨AZ.2 h,trivial⟩ (by kernel_rfl))
theorem two_mul {F:Type} [CR F] (y:F) :(y+y)=((int 2)*y) :=
 AZ.1 (BF [y] (.sub (.add (.v 0) (.v 0)) (.mul (.c 2) (.v 0))) [] trivial (by kernel_rfl))
theorem ALy {F:Type} [CR F] (x1 y1 l:F) :y1=((l*x1)+(y1-(l*x1))) :=
 AZ.1 (BF [x1,y1,l] (.sub (.v 1) (.add (.mul (.v 2) (.v 0)) (.sub (.v 1) (.mul (.v 2) (.v 0))))) [] trivial (by kernel_rfl))
theorem ALz {F:Type} [CR F] (x1 y1 x2 y2 l:F) (hl:(l*(x2-x1))=(y2-y1)):y2=((l*x2)+(y1-(l*x1))) :=
 AZ.1 (BF [x1,y1,x2,y2,l] (.sub (.v 3) (.add (.mul (.v 4) (.v 2)) (.sub (.v 1) (.mul (.v 4) (.v 0))))) [((.c (-1)),.sub (.mul (.v 4) (.sub (.v 2) (.v 0))) (.sub (.v 3) (.v 1)))] ⟨AZ.2 hl,trivial⟩ (by kernel_rfl))
theorem AL0 {F:Type} [CR F] (x1 x2 l:F) :((x1+x2)+(((l*l)-x1)-x2))=(l*l) :=
 AZ.1 (BF [x1,x2,l] (.sub (.add (.add (.v 0) (.v 1)) (.sub (.sub (.mul (.v 2) (.v 2)) (.v 0)) (.v 1))) (.mul (.v 2) (.v 2))) [] trivial (by kernel_rfl))
theorem AL1 {F:Type} [CR F] (x y h m k:F) (hm:(((m*y)+(m*y))+((m*m)*((x+(h+h))-x)))=((((x+(h+h))*(x+(h+h)))+((x+(h+h))*x))+(x*x))) (hy:y=((k-m)*h)):(((m*k)*h)+((m*k)*h))=(((x*x)+(x*(x+(h+h))))+((x+(h+h))*(x+(h+h)))) :=
 AZ.1 (BF [x,y,h,m,k] (.sub (.add (.mul (.mul (.v 3) (.v 4)) (.v 2)) (.mul (.mul (.v 3) (.v 4)) (.v 2))) (.add (.add (.mul (.v 0) (.v 0)) (.mul (.v 0) (.add (.v 0) (.add (.v 2) (.v 2))))) (.mul (.add (.v 0) (.add (.v 2) (.v 2))) (.add (.v 0) (.add (.v 2) (.v 2)))))) [((.c 1),.sub (.add (.add (.mul (.v 3) (.v 1)) (.mul (.v 3) (.v 1))) (.mul (.mul (.v 3) (.v 3)) (.sub (.add (.v 0) (.add (.v 2) (.v 2))) (.v 0)))) (.add (.add (.mul (.add (.v 0) (.add (.v 2) (.v 2))) (.add (.v 0) (.add (.v 2) (.v 2)))) (.mul (.add (.v 0) (.add (.v 2) (.v 2))) (.v 0))) (.mul (.v 0) (.v 0)))),
  ((.mul (.c (-2)) (.v 3)),.sub (.v 1) (.mul (.sub (.v 4) (.v 3)) (.v 2)))] ⟨AZ.2 hm,AZ.2 hy,trivial⟩ (by kernel_rfl))
theorem AL2 {F:Type} [CR F] (a b:F) :a=(b+(a-b)) :=
 AZ.1 (BF [a,b] (.sub (.v 0) (.add (.v 1) (.sub (.v 0) (.v 1)))) [] trivial (by kernel_rfl))
theorem AL3 {F:Type} [CR F] (a b:F) (h:(a+b)=0):b=(-a) :=
 AZ.1 (BF [a,b] (.sub (.v 1) (.neg (.v 0))) [((.c 1),.sub (.add (.v 0) (.v 1)) (.c 0))] ⟨AZ.2 h,trivial⟩ (by kernel_rfl))
theorem zB {F:Type} [CR F] (a b:F) (h:(-a)=(-b)):a=b :=
 AZ.1 (BF [a,b] (.sub (.v 0) (.v 1)) [((.c (-1)),.sub (.neg (.v 0)) (.neg (.v 1)))] ⟨AZ.2 h,trivial⟩ (by kernel_rfl))
theorem Ny {F:Type} [CR F] (x1 x2 x4 l:F) (e1:((x1+x2)+x4)=(l*l)):x4=(((l*l)-x1)-x2) :=
 AZ.1 (BF [x1,x2,x4,l] (.sub (.v 2) (.sub (.sub (.mul (.v 3) (.v 3)) (.v 0)) (.v 1))) [((.c 1),.sub (.add (.add (.v 0) (.v 1)) (.v 2)) (.mul (.v 3) (.v 3)))] ⟨AZ.2 e1,trivial⟩ (by kernel_rfl))
theorem Nz {F:Type} [CR F] (x2 y2 x4 y4 l n:F) (h2:y2=((l*x2)+n)) (h4:y4=((l*x4)+n)):(-y4)=((l*(x2-x4))-y2) :=
 AZ.1 (BF [x2,y2,x4,y4,l,n] (.sub (.neg (.v 3)) (.sub (.mul (.v 4) (.sub (.v 0) (.v 2))) (.v 1))) [((.c 1),.sub (.v 1) (.add (.mul (.v 4) (.v 0)) (.v 5))),
  ((.c (-1)),.sub (.v 3) (.add (.mul (.v 4) (.v 2)) (.v 5)))] ⟨AZ.2 h2,AZ.2 h4,trivial⟩ (by kernel_rfl))
theorem zC {F:Type} [CR F] (x1 y1 x2 y2 l n:F) (h1:y1=((l*x1)+n)) (h2:y2=((l*x2)+n)):y1=(y2+(l*(x1-x2))) :=
 AZ.1 (BF [x1,y1,x2,y2,l,n] (.sub (.v 1) (.add (.v 3) (.mul (.v 4) (.sub (.v 0) (.v 2))))) [((.c 1),.sub (.v 1) (.add (.mul (.v 4) (.v 0)) (.v 5))),
  ((.c (-1)),.sub (.v 3) (.add (.mul (.v 4) (.v 2)) (.v 5)))] ⟨AZ.2 h1,AZ.2 h2,trivial⟩ (by kernel_rfl))
theorem AL4 {F:Type} [CR F] (x1 x2 x3 k:F) (e:((x1+x2)+x3)=((-k)*(-k))):x1=(((k*k)-x2)-x3) :=
 AZ.1 (BF [x1,x2,x3,k] (.sub (.v 0) (.sub (.sub (.mul (.v 3) (.v 3)) (.v 1)) (.v 2))) [((.c 1),.sub (.add (.add (.v 0) (.v 1)) (.v 2)) (.mul (.neg (.v 3)) (.neg (.v 3))))] ⟨AZ.2 e,trivial⟩ (by kernel_rfl))
theorem AL5 {F:Type} [CR F] (x1 y1 x2 y2 k n:F) (h1:y1=(((-k)*x1)+n)) (h2:y2=(((-k)*x2)+n)):y1=((k*(x2-x1))+y2) :=
 AZ.1 (BF [x1,y1,x2,y2,k,n] (.sub (.v 1) (.add (.mul (.v 4) (.sub (.v 2) (.v 0))) (.v 3))) [((.c 1),.sub (.v 1) (.add (.mul (.neg (.v 4)) (.v 0)) (.v 5))),
  ((.c (-1)),.sub (.v 3) (.add (.mul (.neg (.v 4)) (.v 2)) (.v 5)))] ⟨AZ.2 h1,AZ.2 h2,trivial⟩ (by kernel_rfl))
theorem AL6 {F:Type} [CR F] (d t n x1 x5:F) (h:(d*t)=n):((d*d)*(((t*t)-x1)-x5))=((n*n)-((d*d)*(x1+x5))) :=
 AZ.1 (BF [d,t,n,x1,x5] (.sub (.mul (.mul (.v 0) (.v 0)) (.sub (.sub (.mul (.v 1) (.v 1)) (.v 3)) (.v 4))) (.sub (.mul (.v 2) (.v 2)) (.mul (.mul (.v 0) (.v 0)) (.add (.v 3) (.v 4))))) [((.add (.mul (.v 0) (.v 1)) (.v 2)),.sub (.mul (.v 0) (.v 1)) (.v 2))] ⟨AZ.2 h,trivial⟩ (by kernel_rfl))
theorem AL7 {F:Type} [CR F] (d t n x1 X y1:F) (h:(d*t)=n):(d*((t*(x1-X))-y1))=((n*(x1-X))-(d*y1)) :=
 AZ.1 (BF [d,t,n,x1,X,y1] (.sub (.mul (.v 0) (.sub (.mul (.v 1) (.sub (.v 3) (.v 4))) (.v 5))) (.sub (.mul (.v 2) (.sub (.v 3) (.v 4))) (.mul (.v 0) (.v 5)))) [((.add (.v 3) (.neg (.v 4))),.sub (.mul (.v 0) (.v 1)) (.v 2))] ⟨AZ.2 h,trivial⟩ (by kernel_rfl))
theorem AL8 {F:Type} [CR F] (y3 y2 d k:F) (h:(d*(-k))=((-y3)-y2)):(y3+y2)=(k*d) :=
 AZ.1 (BF [y3,y2,d,k] (.sub (.add (.v 0) (.v 1)) (.mul (.v 3) (.v 2))) [((.c 1),.sub (.mul (.v 2) (.neg (.v 3))) (.sub (.neg (.v 0)) (.v 1)))] ⟨AZ.2 h,trivial⟩ (by kernel_rfl))
end Go.Proofs.YtjlcdlekmpjjnaaGreat.Rg
namespace Go.Proofs.YtjlcdlekmpjjnaaGreat.Rg
class FD (F:Type) extends CR F where
 inv:F→F
 mul_inv:∀ a:F,a≠0→a*inv a=1
 inv_zero:inv 0=0
 one_ne:(1:F)≠0
 dec:DecidableEq F
instance fdDec {F:Type} [FD F]:DecidableEq F:=FD.dec
open FD (inv)
inductive Pt (F:Type) where
 | inf
 | pt (x y:F)
section
variable {F:Type} [FD F]
theorem IJ {a b c:F} (ha:a≠0) (h:a*b=a*c):b=c:=by
 have h2:inv a*(a*b)=inv a*(a*c):=by rw [h]
 rw [← mul_assoc,← mul_assoc,mul_comm (inv a) a,FD.mul_inv a ha,one_mul,one_mul] at h2
 exact h2
theorem Wl {a b:F} (ha:a≠0) (h:a*b=0):b=0:=IJ ha (by rw [h,mul_zero])
theorem EU {a b:F} (ha:a≠0) (hb:b≠0):a*b≠0:=fun h=>hb (Wl ha h)
theorem Pu {a b:F} (h:a≠b):a-b≠0:=fun e=>h (AZ.1 e)
theorem Wm {d e l:F} (hd:d≠0) (h:d*l=e):e*inv d=l:=by
 rw [← h,mul_comm d l,mul_assoc,FD.mul_inv d hd,mul_one]
theorem zD {d e:F} (hd:d≠0):e*inv d*d=e:=by
 rw [mul_assoc,mul_comm (inv d),FD.mul_inv d hd,mul_one]
def Hh (x1 y1 x2 l:F):Pt F:=.pt (l*l-x1-x2) (l*(x1-(l*l-x1-x2))-y1)
def add:Pt F→Pt F→Pt F
 | .inf,q=>q
 | .pt x1 y1,q=>match q with
  | .inf=>.pt x1 y1
  | .pt x2 y2=>if x1=x2 then (if y1=y2∧y1≠0 then Hh x1 y1 x2 ((x1*x1+x1*x1+x1*x1)*inv (y1+y1)) else .inf) else Hh x1 y1 x2 ((y2-y1)*inv (x2-x1))
theorem N0 (x1 y1 x2 y2:F):add (.pt x1 y1) (.pt x2 y2)=if x1=x2 then (if y1=y2∧y1≠0 then Hh x1 y1 x2 ((x1*x1+x1*x1+x1*x1)*inv (y1+y1)) else .inf) else Hh x1 y1 x2 ((y2-y1)*inv (x2-x1)):=rfl
def neg:Pt F→Pt F
 | .inf=>.inf
 | .pt x y=>.pt x (-y)
def On (b:F):Pt F→Prop
 | .inf=>True
 | .pt x y=>y*y=x*x*x+b
structure Ln (b x1 y1 x2 y2 x3 y3 l n:F):Prop where
 h1:y1=l*x1+n
 h2:y2=l*x2+n
 h3:y3=l*x3+n
 e1:x1+x2+x3=l*l
 e2:x1*x2+x1*x3+x2*x3+(l*n+l*n)=0
 e3:x1*x2*x3+b=n*n
section
variable {b x1 y1 x2 y2 x3 y3 l n:F}
theorem Ln.sw (h:Ln b x1 y1 x2 y2 x3 y3 l n):Ln b x2 y2 x1 y1 x3 y3 l n:=⟨h.h2,h.h1,h.h3,ALi _ _ _ _ h.e1,ALk _ _ _ _ h.e2,ALm _ _ _ _ _ h.e3⟩
theorem Ln.ro (h:Ln b x1 y1 x2 y2 x3 y3 l n):Ln b x2 y2 x3 y3 x1 y1 l n:=⟨h.h2,h.h3,h.h1,ALj _ _ _ _ h.e1,ALl _ _ _ _ h.e2,ALn _ _ _ _ _ h.e3⟩
theorem Ln.neg (h:Ln b x1 y1 x2 y2 x3 y3 l n):Ln b x1 (-y1) x2 (-y2) x3 (-y3) (-l) (-n) :=
 ⟨f8 _ _ _ _ h.h1,f8 _ _ _ _ h.h2,f8 _ _ _ _ h.h3,by rw [neg_sq];exact h.e1,by rw [ALo];exact h.e2,by rw [neg_sq];exact h.e3⟩
theorem Ln.on (h:Ln b x1 y1 x2 y2 x3 y3 l n):y1*y1=x1*x1*x1+b:=ALf x1 y1 x2 x3 l n b h.h1 h.e1 h.e2 h.e3
end
structure Cv (F:Type) [FD F] where
 b:F
 two:(int 2:F)≠0
 no2:∀ x y:F,y*y=x*x*x+b→y≠0
variable (C:Cv F)
include C in
theorem Pv {y:F} (h:y≠0):y+y≠0:=by rw [two_mul];exact EU C.two h
theorem Ep {x1 y1 x2 y2 x3 y3 l n:F} (h:Ln C.b x1 y1 x2 y2 x3 y3 l n):add (.pt x1 y1) (.pt x2 y2)=.pt x3 (-y3):=by
 have hy:=C.no2 _ _ h.on
 have hsum:Hh x1 y1 x2 l=.pt x3 (-y3):=by
  unfold Hh
  rw [ALh x1 x2 x3 l h.e1,ALg x1 y1 x3 y3 l n h.h1 h.h3]
 rw [N0]
 by_cases hx:x1=x2
 ·subst hx
  have e:=Wk _ _ _ _ _ h.h1 h.h2
  have ht:=y9 x1 y1 x3 l n h.h1 h.e1 h.e2
  rw [if_pos rfl,if_pos ⟨e,hy⟩,Wm (Pv C hy) ht]
  exact hsum
 ·rw [if_neg hx,Wm (Pu (Ne.symm hx)) (Ps x1 y1 x2 y2 l n h.h1 h.h2)]
  exact hsum
theorem zE {x1 y1 x2 y2 l:F} (c1:y1*y1=x1*x1*x1+C.b) (hl:l*(x2-x1)=y2-y1)
  (e2:x1*x2+x1*(l*l-x1-x2)+x2*(l*l-x1-x2)+(l*(y1-l*x1)+l*(y1-l*x1))=0):Ln C.b x1 y1 x2 y2 (l*l-x1-x2) (l*(l*l-x1-x2)+(y1-l*x1)) l (y1-l*x1) :=
 ⟨ALy x1 y1 l,ALz x1 y1 x2 y2 l hl,rfl,AL0 x1 x2 l,e2,ALe x1 y1 x2 l C.b e2 c1⟩
theorem KF {x1 y1 x2 y2:F} (c1:y1*y1=x1*x1*x1+C.b) (c2:y2*y2=x2*x2*x2+C.b):(x2=x1∧y2=-y1)∨∃ x3 y3 l n,Ln C.b x1 y1 x2 y2 x3 y3 l n:=by
 by_cases hx:x1=x2
 ·subst hx
  by_cases hy:y1=y2
  ·subst hy
   have hy0:=C.no2 _ _ c1
   refine .inr ⟨_,_,(x1*x1+x1*x1+x1*x1)*inv (y1+y1),_,zE C c1 (by rw [sub_self,sub_self,mul_zero]) ?_⟩
   refine ALd x1 y1 _ ?_
   rw [mul_comm,zD (Pv C hy0)]
  ·refine .inl ⟨rfl,?_⟩
   have:=ALp y1 y2 _ c1 c2
   exact AL3 y1 y2 (Wl (Pu hy) this)
 ·have hd:=Pu (Ne.symm hx)
  have hl:(y2-y1)*inv (x2-x1)*(x2-x1)=y2-y1:=zD hd
  exact .inr ⟨_,_,(y2-y1)*inv (x2-x1),_,zE C c1 hl (Wl hd (ALc x1 y1 x2 y2 _ C.b hl c1 c2))⟩
include C in
theorem Wn {y:F} (hy:y≠0) (h:y=-y):False:=by
 have h2:y+y=0:=by
  have:=Rg.add_neg y
  rw [← h] at this;exact this
 exact Pv C hy h2
theorem IK {x y:F} (c:y*y=x*x*x+C.b):add (.pt x y) (.pt x (-y))=.inf:=by
 have hy:=C.no2 _ _ c
 rw [N0,if_pos rfl,if_neg]
 rintro ⟨h,_⟩
 exact Wn C hy h
theorem KJ {x y:F} (c:y*y=x*x*x+C.b):(-y)*(-y)=x*x*x+C.b:=by rw [neg_sq];exact c
theorem zG {p q:Pt F} (hp:On C.b p) (hq:On C.b q):On C.b (add p q):=by
 cases p with
 | inf=>exact hq
 | pt x1 y1=>cases q with
  | inf=>exact hp
  | pt x2 y2 =>
   rcases KF C hp hq with ⟨rfl,rfl⟩ | ⟨x3,y3,l,n,h⟩
   ·rw [IK C hp];trivial
   ·rw [Ep C h];exact KJ C h.ro.ro.on
theorem Px {p q:Pt F} (hp:On C.b p) (hq:On C.b q):add p q=add q p:=by
 cases p with
 | inf=>cases q<;>rfl
 | pt x1 y1=>cases q with
  | inf=>rfl
  | pt x2 y2 =>
   rcases KF C hp hq with ⟨rfl,rfl⟩ | ⟨x3,y3,l,n,h⟩
   ·rw [IK C hp]
    have:=IK C (KJ C hp)
    rw [neg_neg] at this
    exact this.symm
   ·rw [Ep C h,Ep C h.sw]
theorem Wo (p:Pt F):add p .inf=p:=by cases p<;>rfl
theorem Tu {p q:Pt F} (hp:On C.b p) (hq:On C.b q):add (neg p) (add p q)=q:=by
 cases p with
 | inf=>rfl
 | pt x1 y1=>cases q with
  | inf =>
   have h:=IK C (KJ C hp)
   rw [neg_neg] at h
   exact h
  | pt x2 y2 =>
   rcases KF C hp hq with ⟨rfl,rfl⟩ | ⟨x3,y3,l,n,h⟩
   ·rw [IK C hp];rfl
   ·rw [Ep C h]
    have:=Ep C h.neg.sw.ro
    rw [neg_neg] at this
    exact this
theorem AL9 {p q r:Pt F} (hp:On C.b p) (hq:On C.b q) (hr:On C.b r) (h:add p q=add p r):q=r:=by
 rw [← Tu C hp hq,h,Tu C hp hr]
theorem zH {x1 y1 x2 y2 x3 y3 l n x5 y5 m q:F} (h1:Ln C.b x1 y1 x2 y2 x3 (-y3) l n) (h2:Ln C.b x2 y2 x3 y3 x5 y5 m q):add (.pt x3 y3) (.pt x3 y3)=add (.pt x1 y1) (.pt x5 (-y5)):=by
 have cP:=h1.on
 have cQ:=h2.on
 have cR:=h2.ro.on
 have hyQ:=C.no2 _ _ cQ
 have hyR:=C.no2 _ _ cR
 have a2:add (.pt x1 y1) (.pt x2 y2)=.pt x3 y3:=by rw [Ep C h1,neg_neg]
 have a1:add (.pt x2 y2) (.pt x3 y3)=.pt x5 (-y5):=Ep C h2
 rcases KF C cR cR with ⟨_,e⟩ | ⟨x6,y6,s,n6,h6⟩
 ·exact (Wn C hyR e).elim
 rcases KF C cP (KJ C h2.ro.ro.on) with ⟨e1,e2⟩ | ⟨x7,y7,t,n7,h7⟩
 ·exfalso
  have e2:=zB _ _ e2
  subst e1;subst e2
  have a3:=Ep C h2.ro.ro
  rw [a2] at a3
  injection a3 with _ a3
  exact Wn C hyR a3
 rw [Ep C h6,Ep C h7]
 have ht:(x5-x1)*t=-y5-y1:=Ps x1 y1 x5 (-y5) t n7 h7.h1 h7.h2
 have hs:(y3+y3)*s=x3*x3+x3*x3+x3*x3:=y9 x3 y3 x6 s n6 h6.h1 h6.e1 h6.e2
 have hd:x5≠x1:=by
  intro e
  subst e
  have e3:=Wk _ _ _ _ _ h7.h1 h7.h2
  rw [← e3] at a1
  have a4:add (neg (.pt x2 y2)) (.pt x3 y3)=.pt x5 y1:=by
   rw [← a2,Px C (p:=.pt x5 y1) (q:=.pt x2 y2) cP cQ]
   exact Tu C (p:=.pt x2 y2) (q:=.pt x5 y1) cQ cP
  have a5:add (.pt x3 y3) (.pt x2 y2)=add (.pt x3 y3) (neg (.pt x2 y2)):=by
   rw [Px C (p:=.pt x3 y3) (q:=.pt x2 y2) cR cQ,Px C (p:=.pt x3 y3) (q:=neg (.pt x2 y2)) cR (KJ C cQ),a1,a4]
  have a6:=AL9 C (p:=.pt x3 y3) (q:=.pt x2 y2) (r:=neg (.pt x2 y2)) cR cQ (KJ C cQ) a5
  injection a6 with _ a6
  exact Wn C hyQ a6
 have hi:(int 2:F)*inv (int 2)=int 1:=by rw [FD.mul_inv _ C.two,To]
 obtain ⟨h,hh⟩:∃ h:F,h+h=x3-x2:=⟨(x3-x2)*inv (int 2),ALx _ _ hi⟩
 obtain ⟨k,rfl⟩:∃ k:F,l=-k:=⟨-l,(neg_neg l).symm⟩
 have ex3:x3=x2+(h+h):=by rw [hh];exact AL2 _ _
 have hm:y3-y2=m*(h+h):=by
  have:=Ps x2 y2 x3 y3 m q h2.h1 h2.h2
  rw [hh,mul_comm];exact this.symm
 have hk:y3+y2=k*(h+h):=by
  have:=Ps x2 y2 x3 (-y3) (-k) n h1.h2 h1.h3
  rw [hh];exact AL8 _ _ _ _ this
 have ey2:y2=(k-m)*h:=IJ C.two (ALv y2 y3 h m k hm hk)
 have ey3:y3=(k+m)*h:=IJ C.two (ALw y2 y3 h m k hm hk)
 have ex1:x1=k*k-x2-x3:=AL4 x1 x2 x3 k h1.e1
 have ey1:y1=k*(x2-x1)+y2:=AL5 x1 y1 x2 y2 k n h1.h1 h1.h2
 have ex5:x5=m*m-x2-x3:=Ny x2 x3 x5 m h2.e1
 have ey5:-y5=m*(x2-x5)-y2:=Nz x2 y2 x5 y5 m q h2.h1 h2.h3
 have r2:=AL1 x2 y2 h m k (by rw [← ex3];exact zA x2 y2 x3 x5 m q h2.h1 h2.e1 h2.e2) ey2
 have rs:((k+m)*h+(k+m)*h)*s=(x2+(h+h))*(x2+(h+h))+(x2+(h+h))*(x2+(h+h))+(x2+(h+h))*(x2+(h+h)):=by rw [← ey3,← ex3];exact hs
 have hX:=spX x2 h m k s r2 rs
 have hY:=spY x2 h m k s r2 rs
 rw [← ex3,← ex1,← ex5,← ey2,← ey3,← ey5,← ey1] at hX hY
 have hw:=Pv C hyR
 have hD:=Pu hd
 have x6e:x6=s*s-x3-x3:=Ny x3 x3 x6 s h6.e1
 have x7e:x7=t*t-x1-x5:=Ny x1 x5 x7 t h7.e1
 have hXX:x6=x7:=by
  rw [x6e,x7e]
  refine IJ (EU hD hD) ?_
  rw [AL6 _ _ _ x1 x5 ht]
  exact IJ (EU hw hw) hX
 have y6e:-y6=s*(x3-x6)-y3:=Nz x3 y3 x6 y6 s n6 h6.h1 h6.h3
 have y7e:-y7=t*(x1-x7)-y1:=Nz x1 y1 x7 y7 t n7 h7.h1 h7.h3
 have hYY:-y6=-y7:=by
  rw [y6e,y7e,← hXX]
  refine IJ hD ?_
  rw [AL7 _ _ _ x1 x6 y1 ht]
  rw [← x6e] at hY
  exact IJ (EU (EU hw hw) hw) hY
 rw [hXX,hYY]
theorem AL_ {x1 y1 x2 y2 x3 y3 x4 y4 x5 y5 x6 y6 x7 y7 l n m q s n6 t n7:F} (h1:Ln C.b x1 y1 x2 y2 x4 y4 l n) (h2:Ln C.b x2 y2 x3 y3 x5 y5 m q) (h3:Ln C.b x4 (-y4) x3 y3 x6 y6 s n6) (h4:Ln C.b x1 y1 x5 (-y5) x7 y7 t n7)
  (hd1:x4≠x3) (hd2:x5≠x1):x6=x7∧-y6=-y7:=by
 have ex4:x4=l*l-x1-x2:=Ny x1 x2 x4 l h1.e1
 have ey4:-y4=l*(x2-x4)-y2:=Nz x2 y2 x4 y4 l n h1.h2 h1.h3
 have ex5:x5=m*m-x2-x3:=Ny x2 x3 x5 m h2.e1
 have ey5:-y5=m*(x2-x5)-y2:=Nz x2 y2 x5 y5 m q h2.h1 h2.h3
 have ey3:y3=y2+m*(x3-x2):=zC x3 y3 x2 y2 m q h2.h2 h2.h1
 have ey1:y1=y2+l*(x1-x2):=zC x1 y1 x2 y2 l n h1.h1 h1.h2
 have hs:s*(x4-x3)=-y4-y3:=by rw [mul_comm];exact Ps x3 y3 x4 (-y4) s n6 h3.h2 h3.h1
 have ht:t*(x5-x1)=-y5-y1:=by rw [mul_comm];exact Ps x1 y1 x5 (-y5) t n7 h4.h1 h4.h2
 have r1:=ALq x1 x2 y2 x4 l n h1.h2 h1.e1 h1.e2
 have r2:=zA x2 y2 x3 x5 m q h2.h1 h2.e1 h2.e2
 have hs':s*(l*l-x1-x2-x3)=l*(x2-(l*l-x1-x2))-y2-(y2+m*(x3-x2)):=by rw [← ex4,← ey4,← ey3];exact hs
 have ht':t*(m*m-x2-x3-x1)=m*(x2-(m*m-x2-x3))-y2-(y2+l*(x1-x2)):=by rw [← ex5,← ey5,← ey1];exact ht
 have hX:=ALr x1 x2 x3 y2 l m s t r1 r2 hs' ht'
 have hY:=ALs x1 x2 x3 y2 l m s t r1 r2 hs' ht'
 rw [← ex4,← ex5] at hX hY
 rw [← ey3,← ey1] at hY
 have hD1:=Pu hd1
 have hD2:=Pu hd2
 have x6e:x6=s*s-x4-x3:=Ny x4 x3 x6 s h3.e1
 have x7e:x7=t*t-x1-x5:=Ny x1 x5 x7 t h4.e1
 have hXX:x6=x7:=by rw [x6e,x7e];exact IJ (EU (EU hD1 hD1) (EU hD2 hD2)) hX
 have y6e:-y6=s*(x3-x6)-y3:=Nz x3 y3 x6 y6 s n6 h3.h2 h3.h3
 have y7e:-y7=t*(x1-x7)-y1:=Nz x1 y1 x7 y7 t n7 h4.h1 h4.h3
 refine ⟨hXX,?_⟩
 rw [y6e,y7e,← hXX]
 rw [← x6e] at hY
 exact IJ (EU (EU (EU hD1 hD1) hD1) hD2) hY
theorem AL' {p q r:Pt F} (hp:On C.b p) (hq:On C.b q) (hr:On C.b r):add (add p q) r=add p (add q r):=by
 cases p with
 | inf=>rfl
 | pt x1 y1=>cases q with
  | inf=>rfl
  | pt x2 y2=>cases r with
   | inf=>rw [Wo,Wo]
   | pt x3 y3 =>
    rcases KF C hp hq with ⟨rfl,rfl⟩ | ⟨x4,y4,l,n,h1⟩
    ·rw [IK C hp]
     have hn:On C.b (.pt x2 (-y1)):=hq
     have:=Tu C (p:=.pt x2 (-y1)) (q:=.pt x3 y3) hn hr
     rw [show neg (.pt x2 (-y1):Pt F)=.pt x2 y1 by simp [neg,neg_neg]] at this
     exact this.symm
    rcases KF C hq hr with ⟨rfl,rfl⟩ | ⟨x5,y5,m,q,h2⟩
    ·rw [IK C hq,Wo,Px C (zG C hp hq) hr,Px C hp hq]
     exact Tu C (p:=.pt x3 y2) (q:=.pt x1 y1) hq hp
    rw [Ep C h1,Ep C h2]
    have c4:=KJ C h1.ro.ro.on
    have c5:=KJ C h2.ro.ro.on
    rcases KF C c4 hr with ⟨e1,e2⟩ | ⟨x6,y6,s,n6,h3⟩
    ·
     rw [neg_neg] at e2
     subst e1;subst e2
     have a:=Ep C h1.ro
     rw [Ep C h2] at a
     rw [a,IK C hp]
     have:=IK C c4
     rw [neg_neg] at this
     exact this
    rcases KF C hp c5 with ⟨e1,e2⟩ | ⟨x7,y7,t,n7,h4⟩
    ·have e2:=zB _ _ e2
     subst e1;subst e2
     have a:=Ep C h2.ro.ro
     rw [Ep C h1] at a
     rw [a,IK C hp]
     have:=IK C (KJ C hr)
     rw [neg_neg] at this
     exact this
    by_cases hd1:x4=x3
    ·have e3:=Wk _ _ _ _ _ (hd1▸h3.h1) h3.h2
     subst hd1
     rw [e3]
     have h1':Ln C.b x1 y1 x2 y2 x4 (-y3) l n:=by rw [← e3,neg_neg];exact h1
     exact zH C h1' h2
    by_cases hd2:x5=x1
    ·have e3:=Wk _ _ _ _ _ h4.h1 (hd2▸h4.h2)
     subst hd2
     rw [← e3]
     have h2':Ln C.b x3 y3 x2 y2 x5 (-y1) m q:=by rw [e3,neg_neg];exact h2.sw
     have:=zH C h2' h1.sw
     rw [this]
     exact Px C (p:=.pt x4 (-y4)) (q:=.pt x3 y3) c4 hr
    obtain ⟨e1,e2⟩:=AL_ C h1 h2 h3 h4 hd1 hd2
    rw [Ep C h3,Ep C h4,e1,e2]
def BH:Nat→Pt F→Pt F
 | 0,_=>.inf
 | n+1,p=>add (BH n p) p
theorem GT {p:Pt F} (hp:On C.b p):∀ n,On C.b (BH n p)
 | 0=>trivial
 | n+1=>zG C (GT hp n) hp
theorem N1 {p:Pt F} (hp:On C.b p) (m:Nat):∀ n,BH (m+n) p=add (BH m p) (BH n p)
 | 0=>(Wo _).symm
 | n+1=>by
  rw [← Nat.add_assoc]
  simp only [BH]
  rw [N1 hp m n,AL' C (GT C hp m) (GT C hp n) hp]
theorem f9 {p:Pt F} (hp:On C.b p) (m:Nat):∀ n,BH (m*n) p=BH n (BH m p)
 | 0=>rfl
 | n+1=>by
  rw [Nat.mul_succ,N1 C hp,f9 hp m n];rfl
theorem Py:∀ n,BH n (.inf:Pt F)=.inf
 | 0=>rfl
 | n+1=>by simp only [BH];rw [Py n];rfl
end
end Go.Proofs.YtjlcdlekmpjjnaaGreat.Rg
namespace Go.Proofs.YtjlcdlekmpjjnaaGreat.Rg
set_option maxRecDepth 100000
set_option maxHeartbeats 4000000
theorem AMA {F:Type} [CR F] (x y i I:F) (hi:i=((y+y)*I)):(((y*((i*i)*i))+(y*((i*i)*i)))*((((x*x)+(x*x))+(x*x))*I))=((((x*(i*i))*(x*(i*i)))+((x*(i*i))*(x*(i*i))))+((x*(i*i))*(x*(i*i)))) :=
 AZ.1 (BF [x,y,i,I] (.sub (.mul (.add (.mul (.v 1) (.mul (.mul (.v 2) (.v 2)) (.v 2))) (.mul (.v 1) (.mul (.mul (.v 2) (.v 2)) (.v 2)))) (.mul (.add (.add (.mul (.v 0) (.v 0)) (.mul (.v 0) (.v 0))) (.mul (.v 0) (.v 0))) (.v 3))) (.add (.add (.mul (.mul (.v 0) (.mul (.v 2) (.v 2))) (.mul (.v 0) (.mul (.v 2) (.v 2)))) (.mul (.mul (.v 0) (.mul (.v 2) (.v 2))) (.mul (.v 0) (.mul (.v 2) (.v 2))))) (.mul (.mul (.v 0) (.mul (.v 2) (.v 2))) (.mul (.v 0) (.mul (.v 2) (.v 2)))))) [((.mul (.mul (.c (-3)) (.pw (.v 2) 3)) (.pw (.v 0) 2)),.sub (.v 2) (.mul (.add (.v 1) (.v 1)) (.v 3)))] ⟨AZ.2 hi,trivial⟩ (by kernel_rfl))
theorem zI {F:Type} [CR F] (x y i I:F) (hi:i=((y+y)*I)):(((((((x*x)+(x*x))+(x*x))*I)*((((x*x)+(x*x))+(x*x))*I))-(x*(i*i)))-(x*(i*i)))=((((((x*x)+(x*x))+(x*x))*(((x*x)+(x*x))+(x*x)))-((((x*(y*y))+(x*(y*y)))+((x*(y*y))+(x*(y*y))))+(((x*(y*y))+(x*(y*y)))+((x*(y*y))+(x*(y*y))))))*(I*I)) :=
 AZ.1 (BF [x,y,i,I] (.sub (.sub (.sub (.mul (.mul (.add (.add (.mul (.v 0) (.v 0)) (.mul (.v 0) (.v 0))) (.mul (.v 0) (.v 0))) (.v 3)) (.mul (.add (.add (.mul (.v 0) (.v 0)) (.mul (.v 0) (.v 0))) (.mul (.v 0) (.v 0))) (.v 3))) (.mul (.v 0) (.mul (.v 2) (.v 2)))) (.mul (.v 0) (.mul (.v 2) (.v 2)))) (.mul (.sub (.mul (.add (.add (.mul (.v 0) (.v 0)) (.mul (.v 0) (.v 0))) (.mul (.v 0) (.v 0))) (.add (.add (.mul (.v 0) (.v 0)) (.mul (.v 0) (.v 0))) (.mul (.v 0) (.v 0)))) (.add (.add (.add (.mul (.v 0) (.mul (.v 1) (.v 1))) (.mul (.v 0) (.mul (.v 1) (.v 1)))) (.add (.mul (.v 0) (.mul (.v 1) (.v 1))) (.mul (.v 0) (.mul (.v 1) (.v 1))))) (.add (.add (.mul (.v 0) (.mul (.v 1) (.v 1))) (.mul (.v 0) (.mul (.v 1) (.v 1)))) (.add (.mul (.v 0) (.mul (.v 1) (.v 1))) (.mul (.v 0) (.mul (.v 1) (.v 1))))))) (.mul (.v 3) (.v 3)))) [((.add (.mul (.mul (.c (-2)) (.v 2)) (.v 0)) (.mul (.mul (.mul (.c (-4)) (.v 0)) (.v 1)) (.v 3))),.sub (.v 2) (.mul (.add (.v 1) (.v 1)) (.v 3)))] ⟨AZ.2 hi,trivial⟩ (by kernel_rfl))
theorem AMB {F:Type} [CR F] (x y i I:F) (hi:i=((y+y)*I)):((((((x*x)+(x*x))+(x*x))*I)*((x*(i*i))-(((((((x*x)+(x*x))+(x*x))*I)*((((x*x)+(x*x))+(x*x))*I))-(x*(i*i)))-(x*(i*i)))))-(y*((i*i)*i)))=((((((x*x)+(x*x))+(x*x))*((((x*(y*y))+(x*(y*y)))+((x*(y*y))+(x*(y*y))))-(((((x*x)+(x*x))+(x*x))*(((x*x)+(x*x))+(x*x)))-((((x*(y*y))+(x*(y*y)))+((x*(y*y))+(x*(y*y))))+(((x*(y*y))+(x*(y*y)))+((x*(y*y))+(x*(y*y))))))))-(((((y*y)*(y*y))+((y*y)*(y*y)))+(((y*y)*(y*y))+((y*y)*(y*y))))+((((y*y)*(y*y))+((y*y)*(y*y)))+(((y*y)*(y*y))+((y*y)*(y*y))))))*((I*I)*I)) :=
 AZ.1 (BF [x,y,i,I] (.sub (.sub (.mul (.mul (.add (.add (.mul (.v 0) (.v 0)) (.mul (.v 0) (.v 0))) (.mul (.v 0) (.v 0))) (.v 3)) (.sub (.mul (.v 0) (.mul (.v 2) (.v 2))) (.sub (.sub (.mul (.mul (.add (.add (.mul (.v 0) (.v 0)) (.mul (.v 0) (.v 0))) (.mul (.v 0) (.v 0))) (.v 3)) (.mul (.add (.add (.mul (.v 0) (.v 0)) (.mul (.v 0) (.v 0))) (.mul (.v 0) (.v 0))) (.v 3))) (.mul (.v 0) (.mul (.v 2) (.v 2)))) (.mul (.v 0) (.mul (.v 2) (.v 2)))))) (.mul (.v 1) (.mul (.mul (.v 2) (.v 2)) (.v 2)))) (.mul (.sub (.mul (.add (.add (.mul (.v 0) (.v 0)) (.mul (.v 0) (.v 0))) (.mul (.v 0) (.v 0))) (.sub (.add (.add (.mul (.v 0) (.mul (.v 1) (.v 1))) (.mul (.v 0) (.mul (.v 1) (.v 1)))) (.add (.mul (.v 0) (.mul (.v 1) (.v 1))) (.mul (.v 0) (.mul (.v 1) (.v 1))))) (.sub (.mul (.add (.add (.mul (.v 0) (.v 0)) (.mul (.v 0) (.v 0))) (.mul (.v 0) (.v 0))) (.add (.add (.mul (.v 0) (.v 0)) (.mul (.v 0) (.v 0))) (.mul (.v 0) (.v 0)))) (.add (.add (.add (.mul (.v 0) (.mul (.v 1) (.v 1))) (.mul (.v 0) (.mul (.v 1) (.v 1)))) (.add (.mul (.v 0) (.mul (.v 1) (.v 1))) (.mul (.v 0) (.mul (.v 1) (.v 1))))) (.add (.add (.mul (.v 0) (.mul (.v 1) (.v 1))) (.mul (.v 0) (.mul (.v 1) (.v 1)))) (.add (.mul (.v 0) (.mul (.v 1) (.v 1))) (.mul (.v 0) (.mul (.v 1) (.v 1))))))))) (.add (.add (.add (.mul (.mul (.v 1) (.v 1)) (.mul (.v 1) (.v 1))) (.mul (.mul (.v 1) (.v 1)) (.mul (.v 1) (.v 1)))) (.add (.mul (.mul (.v 1) (.v 1)) (.mul (.v 1) (.v 1))) (.mul (.mul (.v 1) (.v 1)) (.mul (.v 1) (.v 1))))) (.add (.add (.mul (.mul (.v 1) (.v 1)) (.mul (.v 1) (.v 1))) (.mul (.mul (.v 1) (.v 1)) (.mul (.v 1) (.v 1)))) (.add (.mul (.mul (.v 1) (.v 1)) (.mul (.v 1) (.v 1))) (.mul (.mul (.v 1) (.v 1)) (.mul (.v 1) (.v 1))))))) (.mul (.mul (.v 3) (.v 3)) (.v 3)))) [((.add (.add (.neg (.mul (.pw (.v 2) 2) (.v 1))) (.mul (.mul (.mul (.c 9) (.v 2)) (.pw (.v 0) 3)) (.v 3))) (.add (.mul (.mul (.mul (.c (-2)) (.v 2)) (.pw (.v 1) 2)) (.v 3)) (.add (.mul (.mul (.mul (.c 18) (.pw (.v 0) 3)) (.v 1)) (.pw (.v 3) 2)) (.mul (.mul (.c (-4)) (.pw (.v 1) 3)) (.pw (.v 3) 2))))),.sub (.v 2) (.mul (.add (.v 1) (.v 1)) (.v 3)))] ⟨AZ.2 hi,trivial⟩ (by kernel_rfl))
theorem AMC {F:Type} [CR F] (y z i I:F) (hz:(z*i)=(int 1)) (hZ:(((y*z)+(y*z))*I)=(int 1)):i=((y+y)*I) :=
 AZ.1 (BF [y,z,i,I] (.sub (.v 2) (.mul (.add (.v 0) (.v 0)) (.v 3))) [((.mul (.mul (.c 2) (.v 0)) (.v 3)),.sub (.mul (.v 1) (.v 2)) (.c 1)),
  ((.neg (.v 2)),.sub (.mul (.add (.mul (.v 0) (.v 1)) (.mul (.v 0) (.v 1))) (.v 3)) (.c 1))] ⟨AZ.2 hz,AZ.2 hZ,trivial⟩ (by kernel_rfl))
theorem AMD {F:Type} [CR F] (x a z i:F) (hz:(z*i)=(int 1)):(((a*(z*z))-x)*(i*i))=(a-(x*(i*i))) :=
 AZ.1 (BF [x,a,z,i] (.sub (.mul (.sub (.mul (.v 1) (.mul (.v 2) (.v 2))) (.v 0)) (.mul (.v 3) (.v 3))) (.sub (.v 1) (.mul (.v 0) (.mul (.v 3) (.v 3))))) [((.add (.mul (.mul (.v 1) (.v 2)) (.v 3)) (.v 1)),.sub (.mul (.v 2) (.v 3)) (.c 1))] ⟨AZ.2 hz,trivial⟩ (by kernel_rfl))
theorem AME {F:Type} [CR F] (y b z i:F) (hz:(z*i)=(int 1)):(((b*((z*z)*z))-y)*((i*i)*i))=(b-(y*((i*i)*i))) :=
 AZ.1 (BF [y,b,z,i] (.sub (.mul (.sub (.mul (.v 1) (.mul (.mul (.v 2) (.v 2)) (.v 2))) (.v 0)) (.mul (.mul (.v 3) (.v 3)) (.v 3))) (.sub (.v 1) (.mul (.v 0) (.mul (.mul (.v 3) (.v 3)) (.v 3))))) [((.add (.mul (.mul (.v 1) (.pw (.v 2) 2)) (.pw (.v 3) 2)) (.add (.mul (.mul (.v 1) (.v 2)) (.v 3)) (.v 1))),.sub (.mul (.v 2) (.v 3)) (.c 1))] ⟨AZ.2 hz,trivial⟩ (by kernel_rfl))
theorem AMF {F:Type} [CR F] (z h i I:F) (hz:(z*i)=(int 1)) (hZ:((z*h)*I)=(int 1)):i=(h*I) :=
 AZ.1 (BF [z,h,i,I] (.sub (.v 2) (.mul (.v 1) (.v 3))) [((.mul (.v 1) (.v 3)),.sub (.mul (.v 0) (.v 2)) (.c 1)),
  ((.neg (.v 2)),.sub (.mul (.mul (.v 0) (.v 1)) (.v 3)) (.c 1))] ⟨AZ.2 hz,AZ.2 hZ,trivial⟩ (by kernel_rfl))
theorem AMG {F:Type} [CR F] (x y a b i I h r:F) (hi:i=(h*I)) (hh:(h*(i*i))=(a-(x*(i*i)))) (hr:(r*((i*i)*i))=(b-(y*((i*i)*i)))):((a-(x*(i*i)))*(r*I))=(b-(y*((i*i)*i))) :=
 AZ.1 (BF [x,y,a,b,i,I,h,r] (.sub (.mul (.sub (.v 2) (.mul (.v 0) (.mul (.v 4) (.v 4)))) (.mul (.v 7) (.v 5))) (.sub (.v 3) (.mul (.v 1) (.mul (.mul (.v 4) (.v 4)) (.v 4))))) [((.neg (.mul (.pw (.v 4) 2) (.v 7))),.sub (.v 4) (.mul (.v 6) (.v 5))),
  ((.neg (.mul (.v 5) (.v 7))),.sub (.mul (.v 6) (.mul (.v 4) (.v 4))) (.sub (.v 2) (.mul (.v 0) (.mul (.v 4) (.v 4))))),
  ((.c 1),.sub (.mul (.v 7) (.mul (.mul (.v 4) (.v 4)) (.v 4))) (.sub (.v 3) (.mul (.v 1) (.mul (.mul (.v 4) (.v 4)) (.v 4)))))] ⟨AZ.2 hi,AZ.2 hh,AZ.2 hr,trivial⟩ (by kernel_rfl))
theorem AMH {F:Type} [CR F] (x y a i I h r:F) (hi:i=(h*I)) (hh:(h*(i*i))=(a-(x*(i*i)))):((((r*I)*(r*I))-(x*(i*i)))-a)=((((r*r)-((h*h)*h))-((x*(h*h))+(x*(h*h))))*(I*I)) :=
 AZ.1 (BF [x,y,a,i,I,h,r] (.sub (.sub (.sub (.mul (.mul (.v 6) (.v 4)) (.mul (.v 6) (.v 4))) (.mul (.v 0) (.mul (.v 3) (.v 3)))) (.v 2)) (.mul (.sub (.sub (.mul (.v 6) (.v 6)) (.mul (.mul (.v 5) (.v 5)) (.v 5))) (.add (.mul (.v 0) (.mul (.v 5) (.v 5))) (.mul (.v 0) (.mul (.v 5) (.v 5))))) (.mul (.v 4) (.v 4)))) [((.add (.add (.mul (.mul (.c (-2)) (.v 0)) (.v 3)) (.mul (.mul (.mul (.c (-2)) (.v 0)) (.v 4)) (.v 5))) (.add (.neg (.mul (.v 3) (.v 5))) (.neg (.mul (.v 4) (.pw (.v 5) 2))))),.sub (.v 3) (.mul (.v 5) (.v 4))),
  ((.c 1),.sub (.mul (.v 5) (.mul (.v 3) (.v 3))) (.sub (.v 2) (.mul (.v 0) (.mul (.v 3) (.v 3)))))] ⟨AZ.2 hi,AZ.2 hh,trivial⟩ (by kernel_rfl))
theorem AMI {F:Type} [CR F] (x y a i I h r:F) (hi:i=(h*I)) (hh:(h*(i*i))=(a-(x*(i*i)))):(((r*I)*((x*(i*i))-((((r*I)*(r*I))-(x*(i*i)))-a)))-(y*((i*i)*i)))=(((r*((x*(h*h))-(((r*r)-((h*h)*h))-((x*(h*h))+(x*(h*h))))))-(y*((h*h)*h)))*((I*I)*I)) :=
 AZ.1 (BF [x,y,a,i,I,h,r] (.sub (.sub (.mul (.mul (.v 6) (.v 4)) (.sub (.mul (.v 0) (.mul (.v 3) (.v 3))) (.sub (.sub (.mul (.mul (.v 6) (.v 4)) (.mul (.v 6) (.v 4))) (.mul (.v 0) (.mul (.v 3) (.v 3)))) (.v 2)))) (.mul (.v 1) (.mul (.mul (.v 3) (.v 3)) (.v 3)))) (.mul (.sub (.mul (.v 6) (.sub (.mul (.v 0) (.mul (.v 5) (.v 5))) (.sub (.sub (.mul (.v 6) (.v 6)) (.mul (.mul (.v 5) (.v 5)) (.v 5))) (.add (.mul (.v 0) (.mul (.v 5) (.v 5))) (.mul (.v 0) (.mul (.v 5) (.v 5))))))) (.mul (.v 1) (.mul (.mul (.v 5) (.v 5)) (.v 5)))) (.mul (.mul (.v 4) (.v 4)) (.v 4)))) [((.add (.add (.mul (.mul (.mul (.mul (.c 3) (.v 0)) (.v 3)) (.v 4)) (.v 6)) (.add (.mul (.mul (.mul (.mul (.c 3) (.v 0)) (.pw (.v 4) 2)) (.v 5)) (.v 6)) (.neg (.mul (.v 1) (.pw (.v 3) 2))))) (.add (.add (.neg (.mul (.mul (.mul (.v 1) (.v 3)) (.v 4)) (.v 5))) (.neg (.mul (.mul (.v 1) (.pw (.v 4) 2)) (.pw (.v 5) 2)))) (.add (.mul (.mul (.mul (.v 3) (.v 4)) (.v 5)) (.v 6)) (.mul (.mul (.pw (.v 4) 2) (.pw (.v 5) 2)) (.v 6))))),.sub (.v 3) (.mul (.v 5) (.v 4))),
  ((.neg (.mul (.v 4) (.v 6))),.sub (.mul (.v 5) (.mul (.v 3) (.v 3))) (.sub (.v 2) (.mul (.v 0) (.mul (.v 3) (.v 3)))))] ⟨AZ.2 hi,AZ.2 hh,trivial⟩ (by kernel_rfl))
end Go.Proofs.YtjlcdlekmpjjnaaGreat.Rg
namespace Go.Proofs.YtjlcdlekmpjjnaaGreat.Rg
open FD (inv)
structure J (F:Type) where
 x:F
 y:F
 z:F
section
variable {F:Type} [FD F]
def CU (j:J F):Pt F:=if j.z=0 then .inf else .pt (j.x*(inv j.z*inv j.z)) (j.y*((inv j.z*inv j.z)*inv j.z))
def jE (x:F):F:=x*x+x*x+x*x
def jD (x y:F):F:=x*(y*y)+x*(y*y)+(x*(y*y)+x*(y*y))
def jC2 (y:F):F:=(y*y)*(y*y)+(y*y)*(y*y)
def Wp (y:F):F:=jC2 y+jC2 y
def Pz (y:F):F:=Wp y+Wp y
def jX (x y:F):F:=jE x*jE x-(jD x y+jD x y)
def BV (j:J F):J F:=⟨jX j.x j.y,jE j.x*(jD j.x j.y-jX j.x j.y)-Pz j.y,j.y*j.z+j.y*j.z⟩
def pX (x h r:F):F:=r*r-(h*h)*h-(x*(h*h)+x*(h*h))
def pY (x y h r:F):F:=r*(x*(h*h)-pX x h r)-y*((h*h)*h)
def pH (j:J F) (a:F):F:=a*(j.z*j.z)-j.x
def pR (j:J F) (b:F):F:=b*((j.z*j.z)*j.z)-j.y
def FA (j:J F) (a b:F):J F :=
 if j.z=0 then ⟨a,b,1⟩ else if pH j a=0 then (if pR j b=0 then BV j else ⟨0,0,0⟩)
 else ⟨pX j.x (pH j a) (pR j b),pY j.x j.y (pH j a) (pR j b),j.z*pH j a⟩
theorem P0 {z:F} (h:z≠0):z*inv z=int 1:=by rw [FD.mul_inv z h,To]
theorem IL {j:J F} (h:j.z≠0):CU j=.pt (j.x*(inv j.z*inv j.z)) (j.y*((inv j.z*inv j.z)*inv j.z)):=if_neg h
theorem GU {j:J F} (h:j.z=0):CU j=.inf:=if_pos h
theorem AMJ:inv (1:F)=1:=by have:=FD.mul_inv (1:F) FD.one_ne;rwa [one_mul] at this
theorem AMK {z:F} (h:z≠0):inv z≠0:=fun e=>by
 have:=FD.mul_inv z h
 rw [e,mul_zero] at this
 exact FD.one_ne this.symm
variable (C:Cv F)
theorem P1 {j:J F} (hp:On C.b (CU j)):CU (BV j)=add (CU j) (CU j):=by
 by_cases hz:j.z=0
 ·have h2:(BV j).z=0:=by show j.y*j.z+j.y*j.z=0;rw [hz,mul_zero,zero_add]
  rw [GU h2,GU hz];rfl
 ·rw [IL hz] at hp ⊢
  have hY:=C.no2 _ _ hp
  have hy:j.y≠0:=fun e=>hY (by rw [e,zero_mul])
  have hZ:j.y*j.z+j.y*j.z≠0:=Pv C (EU hy hz)
  have hi:=AMC j.y j.z (inv j.z) (inv (j.y*j.z+j.y*j.z)) (P0 hz) (P0 hZ)
  rw [IL (j:=BV j) hZ,N0,if_pos rfl,if_pos ⟨rfl,hY⟩,Wm (Pv C hY) (AMA j.x j.y _ _ hi)]
  unfold Hh
  rw [zI j.x j.y _ _ hi]
  have h2:=AMB j.x j.y _ _ hi
  rw [zI j.x j.y _ _ hi] at h2
  rw [h2];rfl
theorem Tv {j:J F} {a b:F} (hp:On C.b (CU j)):CU (FA j a b)=add (CU j) (.pt a b):=by
 unfold FA
 by_cases hz:j.z=0
 ·rw [if_pos hz,GU hz,IL (j:=⟨a,b,1⟩) FD.one_ne]
  show Pt.pt (a*(inv 1*inv 1)) (b*((inv 1*inv 1)*inv 1))=.pt a b
  rw [AMJ,one_mul,one_mul,mul_one,mul_one]
 ·rw [if_neg hz]
  have eh:pH j a*(inv j.z*inv j.z)=a-j.x*(inv j.z*inv j.z):=AMD j.x a j.z _ (P0 hz)
  have er:pR j b*((inv j.z*inv j.z)*inv j.z)=b-j.y*((inv j.z*inv j.z)*inv j.z):=AME j.y b j.z _ (P0 hz)
  have hi:=AMK hz
  by_cases hh:pH j a=0
  ·have ea:a=j.x*(inv j.z*inv j.z):=AZ.1 (by rw [← eh,hh,zero_mul])
   rw [if_pos hh]
   by_cases hr:pR j b=0
   ·have eb:b=j.y*((inv j.z*inv j.z)*inv j.z):=AZ.1 (by rw [← er,hr,zero_mul])
    rw [if_pos hr,P1 C hp]
    conv=>rhs;rw [ea,eb]
    rw [IL hz]
   ·rw [if_neg hr,GU (j:=⟨0,0,0⟩) rfl,IL hz,N0,if_pos ea.symm,if_neg]
    rintro ⟨e,_⟩
    have:b-j.y*((inv j.z*inv j.z)*inv j.z)=0:=AZ.2 e.symm
    rw [← er] at this
    exact EU hr (EU (EU hi hi) hi) this
  ·rw [if_neg hh]
   have hax:a-j.x*(inv j.z*inv j.z)≠0:=by rw [← eh];exact EU hh (EU hi hi)
   have hZ:j.z*pH j a≠0:=EU hz hh
   have hI:=AMF j.z (pH j a) (inv j.z) (inv (j.z*pH j a)) (P0 hz) (P0 hZ)
   have hl:=AMG j.x j.y a b _ _ _ _ hI eh er
   rw [IL (j:=⟨pX j.x (pH j a) (pR j b),pY j.x j.y (pH j a) (pR j b),j.z*pH j a⟩) hZ,IL hz,N0,if_neg (fun e=>hax (AZ.2 e.symm)),Wm hax hl]
   unfold Hh
   have e1:=AMH j.x j.y a (inv j.z) (inv (j.z*pH j a)) (pH j a) (pR j b) hI eh
   have e2:=AMI j.x j.y a (inv j.z) (inv (j.z*pH j a)) (pH j a) (pR j b) hI eh
   rw [e1] at e2
   rw [e1,e2];rfl
end
end Go.Proofs.YtjlcdlekmpjjnaaGreat.Rg
namespace Go.Proofs.YtjlcdlekmpjjnaaGreat.Rg
section
variable {F:Type} [CR F]
class At (xs:List F) (x:F) (i:outParam Nat):Prop where
 h:nth xs i=x
instance atTail {xs:List F} {x y:F} {i:Nat} [a:At xs x i]:At (y::xs) x (i+1):=⟨a.h⟩
instance (priority:=high) atHead {xs:List F} {x:F}:At (x::xs) x 0:=⟨rfl⟩
class Rf (xs:List F) (t:F) (e:outParam E):Prop where
 h:e.den xs=t
instance (priority:=low) rfV {xs:List F} {x:F} {i:Nat} [a:At xs x i]:Rf xs x (.v i):=⟨a.h⟩
instance rfAdd {xs:List F} {a b:F} {e f:E} [x:Rf xs a e] [y:Rf xs b f]:Rf xs (a+b) (.add e f):=⟨by rw [E.den,x.h,y.h]⟩
instance rfSub {xs:List F} {a b:F} {e f:E} [x:Rf xs a e] [y:Rf xs b f]:Rf xs (a-b) (.sub e f):=⟨by rw [E.den,x.h,y.h]⟩
instance rfMul {xs:List F} {a b:F} {e f:E} [x:Rf xs a e] [y:Rf xs b f]:Rf xs (a*b) (.mul e f):=⟨by rw [E.den,x.h,y.h]⟩
instance rfNeg {xs:List F} {a:F} {e:E} [x:Rf xs a e]:Rf xs (-a) (.neg e):=⟨by rw [E.den,x.h]⟩
instance rfZero {xs:List F}:Rf xs 0 (.c 0):=⟨rfl⟩
instance rfOne {xs:List F}:Rf xs 1 (.c 1):=⟨To⟩
theorem ring (xs:List F) {a b:F} {e f:E} [x:Rf xs a e] [y:Rf xs b f] (h:f6 (E.pol (.sub e f))=true):a=b:=by
 rw [← x.h,← y.h];exact ALb xs e f h
end
end Go.Proofs.YtjlcdlekmpjjnaaGreat.Rg
namespace Go.Proofs.YtjlcdlekmpjjnaaGreat.Rg
set_option maxRecDepth 100000
set_option maxHeartbeats 4000000
set_option synthInstance.maxSize 100000
set_option synthInstance.maxHeartbeats 400000
set_option maxHeartbeats 1000000
structure Qx {F:Type} [CR F] (β:F) where
 a:F
 b:F
section
variable {F:Type} [CR F] {β ξ:F}
theorem Qx.ext {x y:Qx β} (h1:x.a=y.a) (h2:x.b=y.b):x=y:=by cases x;cases y;simp_all
instance crQ:CR (Qx β) where
 add x y:=⟨x.a+y.a,x.b+y.b⟩
 mul x y:=⟨x.a*y.a+β*(x.b*y.b),x.a*y.b+x.b*y.a⟩
 neg x:=⟨-x.a,-x.b⟩
 sub x y:=⟨x.a-y.a,x.b-y.b⟩
 zero:=⟨0,0⟩
 one:=⟨1,0⟩
 add_assoc x y z:=Qx.ext (add_assoc _ _ _) (add_assoc _ _ _)
 add_comm x y:=Qx.ext (add_comm _ _) (add_comm _ _)
 zero_add x:=Qx.ext (zero_add _) (zero_add _)
 neg_add x:=Qx.ext (neg_add _) (neg_add _)
 mul_assoc x y z:=Qx.ext (ring [x.a,x.b,y.a,y.b,z.a,z.b,β] (a:=(x.a*y.a+β*(x.b*y.b))*z.a+β*((x.a*y.b+x.b*y.a)*z.b)) (b:=x.a*(y.a*z.a+β*(y.b*z.b))+β*(x.b*(y.a*z.b+y.b*z.a))) (by kernel_rfl))
  (ring [x.a,x.b,y.a,y.b,z.a,z.b,β] (a:=(x.a*y.a+β*(x.b*y.b))*z.b+(x.a*y.b+x.b*y.a)*z.a) (b:=x.a*(y.a*z.b+y.b*z.a)+x.b*(y.a*z.a+β*(y.b*z.b))) (by kernel_rfl))
 mul_comm x y:=Qx.ext (ring [x.a,x.b,y.a,y.b,β] (a:=x.a*y.a+β*(x.b*y.b)) (b:=y.a*x.a+β*(y.b*x.b)) (by kernel_rfl)) (ring [x.a,x.b,y.a,y.b] (a:=x.a*y.b+x.b*y.a) (b:=y.a*x.b+y.b*x.a) (by kernel_rfl))
 one_mul x:=Qx.ext (ring [x.a,x.b,β] (a:=1*x.a+β*(0*x.b)) (by kernel_rfl)) (ring [x.a,x.b] (a:=1*x.b+0*x.a) (by kernel_rfl))
 add_mul x y z:=Qx.ext (ring [x.a,x.b,y.a,y.b,z.a,z.b,β] (a:=(x.a+y.a)*z.a+β*((x.b+y.b)*z.b)) (b:=x.a*z.a+β*(x.b*z.b)+(y.a*z.a+β*(y.b*z.b))) (by kernel_rfl))
  (ring [x.a,x.b,y.a,y.b,z.a,z.b] (a:=(x.a+y.a)*z.b+(x.b+y.b)*z.a) (b:=x.a*z.b+x.b*z.a+(y.a*z.b+y.b*z.a)) (by kernel_rfl))
 sub_eq x y:=Qx.ext (sub_eq _ _) (sub_eq _ _)
def Qx.conj (x:Qx β):Qx β:=⟨x.a,-x.b⟩
def Qx.nrm (x:Qx β):F:=x.a*x.a-β*(x.b*x.b)
theorem Qx.conj_mul (x y:Qx β):(x*y).conj=x.conj*y.conj :=
 Qx.ext (ring [x.a,x.b,y.a,y.b,β] (a:=x.a*y.a+β*(x.b*y.b)) (b:=x.a*y.a+β*(-x.b*-y.b)) (by kernel_rfl)) (ring [x.a,x.b,y.a,y.b] (a:=-(x.a*y.b+x.b*y.a)) (b:=x.a*-y.b+-x.b*y.a) (by kernel_rfl))
theorem Qx.mul_conj (x:Qx β):x*x.conj=⟨x.nrm,0⟩ :=
 Qx.ext (ring [x.a,x.b,β] (a:=x.a*x.a+β*(x.b*-x.b)) (b:=x.a*x.a-β*(x.b*x.b)) (by kernel_rfl)) (ring [x.a,x.b] (a:=x.a*-x.b+x.b*x.a) (b:=0) (by kernel_rfl))
theorem Qx.nrm_mul (x y:Qx β):(x*y).nrm=x.nrm*y.nrm :=
 ring [x.a,x.b,y.a,y.b,β] (a:=(x.a*y.a+β*(x.b*y.b))*(x.a*y.a+β*(x.b*y.b))-β*((x.a*y.b+x.b*y.a)*(x.a*y.b+x.b*y.a))) (b:=(x.a*x.a-β*(x.b*x.b))*(y.a*y.a-β*(y.b*y.b))) (by kernel_rfl)
end
section
variable {F:Type} [FD F] {β ξ:F}
open FD (inv)
instance decQ:DecidableEq (Qx β):=fun x y=>if h:x.a=y.a∧x.b=y.b then isTrue (Qx.ext h.1 h.2) else isFalse fun e=>h (by rw [e];exact ⟨rfl,rfl⟩)
theorem Wq {a b:F} (h:a*b=0):a=0∨b=0:=by
 by_cases e:a=0
 ·exact .inl e
 ·exact .inr (Wl e h)
theorem Qx.nrm_ne (hβ:∀ x:F,x*x≠β) {x:Qx β} (h:x.nrm=0):x=⟨0,0⟩:=by
 by_cases hb:x.b=0
 ·have:x.a*x.a=0:=by
   have h':=h
   unfold Qx.nrm at h'
   rw [hb,mul_zero,mul_zero,AZ] at h'
   exact h'
  rcases Wq this with e | e<;>exact Qx.ext e hb
 ·exfalso
  refine hβ (x.a*inv x.b) ?_
  have h':=AZ.1 h
  have hi:=FD.mul_inv x.b hb
  calc x.a*inv x.b*(x.a*inv x.b)=(x.a*x.a)*(inv x.b*inv x.b):=ring [x.a,inv x.b] (by kernel_rfl)
   _=β*((x.b*inv x.b)*(x.b*inv x.b)):=by rw [h'];exact ring [x.b,inv x.b,β] (by kernel_rfl)
   _=β:=by rw [hi,mul_one,mul_one]
def gA (x:Qx β):Qx β:=⟨x.a*inv x.nrm,-x.b*inv x.nrm⟩
@[reducible] def fdQ (hβ:∀ x:F,x*x≠β):FD (Qx β) where
 inv:=gA
 mul_inv x h:=by
  have hi:=FD.mul_inv x.nrm fun e=>h (Qx.nrm_ne hβ e)
  exact Qx.ext (Eq.trans (ring [x.a,x.b,inv x.nrm,β] (a:=x.a*(x.a*inv x.nrm)+β*(x.b*(-x.b*inv x.nrm))) (b:=(x.a*x.a-β*(x.b*x.b))*inv x.nrm) (by kernel_rfl)) hi)
   (ring [x.a,x.b,inv x.nrm] (a:=x.a*(-x.b*inv x.nrm)+x.b*(x.a*inv x.nrm)) (b:=0) (by kernel_rfl))
 inv_zero:=Qx.ext (zero_mul _) (by show -(0:F)*_=0;rw [Pn,zero_mul])
 one_ne h:=FD.one_ne (F:=F) (congrArg Qx.a h)
 dec:=decQ
end
end Go.Proofs.YtjlcdlekmpjjnaaGreat.Rg
namespace Go.Proofs.YtjlcdlekmpjjnaaGreat
open Ex Num
set_option maxRecDepth 100000
set_option maxHeartbeats 4000000
abbrev FP:Type:=Fin pN
theorem B_ (a:FP):tf a.val=a:=by
 rw [Fin.ext_iff];show a.val % pN=a.val;exact Nat.mod_eq_of_lt a.isLt
theorem KK {x:Nat} (h:x<pN):(tf x).val=x:=Nat.mod_eq_of_lt h
theorem ME {x:Nat} {a:FP} (hx:x<pN) (h:tf x=a):x=a.val:=by rw [← h,KK hx]
noncomputable def KL (a:FP):FP:=tf (BM a.val)
theorem AMM {a:FP} (h:a≠0):a*KL a=1:=by
 have hz:a.val % pN≠0:=fun e=>h (by
  have:=WH.2 e
  rwa [B_] at this)
 have:=vU hz
 rwa [B_] at this
theorem AMN:KL 0=0:=by
 unfold KL
 have:BM (0:FP).val=0:=vT rfl
 rw [this];exact tf_zero
theorem AMO:(1:FP)≠0:=fun h=>by
 have:=J' (show 1<pN by decide) CQ (by rw [En,tf_zero];exact h)
 cases this
noncomputable instance fdFP:Rg.FD FP where
 add_assoc a b c:=by grind
 add_comm a b:=by grind
 zero_add a:=by grind
 neg_add a:=by grind
 mul_assoc a b c:=by grind
 mul_comm a b:=by grind
 one_mul a:=by grind
 add_mul a b c:=by grind
 sub_eq a b:=by grind
 inv:=KL
 mul_inv a h:=AMM h
 inv_zero:=AMN
 one_ne:=AMO
 dec:=inferInstance
theorem AMP:(Rg.int 2:FP)=1+1:=by
 show (0:FP)+1+1=1+1
 grind
def gB (m:Nat):Bool:=Nat.beq (L3 pN (pN-m) 384 ((pN-1) / 3)) 1
theorem AMQ:gB 4=false:=by kernel_rfl
theorem p3:(pN-1) / 3*3=pN-1:=by kernel_rfl
theorem zJ:Nat.blt ((pN-1) / 3) RR=true:=by kernel_rfl
theorem AMR {m:Nat} (hm:m<pN) (h0:0<m) (hc:gB m=false) (x:Nat):(x^3+m) % pN≠0:=by
 intro h
 have hx:x^3 % pN=pN-m:=by
  have h1:=F5 (x^3)
  rw [Nat.add_mod,Nat.mod_eq_of_lt hm] at h
  have h2:x^3 % pN+m=pN:=by
   have hd:=Nat.dvd_of_mod_eq_zero h
   obtain ⟨k,hk⟩:=hd
   have:k=1:=by
    rcases Nat.lt_or_ge k 1 with q | q
    ·rw [show k=0 by omega,Nat.mul_zero] at hk;omega
    ·rcases Nat.lt_or_ge k 2 with q2 | q2
     ·omega
     ·have:=Nat.mul_le_mul_left pN q2
      omega
   rw [this,Nat.mul_one] at hk
   exact hk
  omega
 have hnd:¬ pN∣x:=fun hd=>by
  obtain ⟨k,hk⟩:=hd
  have:x^3 % pN=0:=by rw [hk,Nat.mul_pow,Nat.pow_succ,Nat.mul_comm (pN^2),Nat.mul_assoc,Nat.mul_mod_right]
  omega
 have hf:=Nn pN_prime hnd
 rw [← p3,Nat.mul_comm,Nat.pow_mul,Nat.pow_mod,hx,← dJ pN 384 (pN-m) ((pN-1) / 3) (by rw [uB];exact A8.1 zJ)] at hf
 unfold gB at hc
 rw [hf] at hc
 cases hc
noncomputable def DG:FP:=tf 4
noncomputable def C1:Rg.Cv FP where
 b:=DG
 two:=by
  rw [AMP]
  have h2:tf 2=1+1:=by rw [← En,← F']
  rw [← h2]
  intro h
  have:=J' (show 2<pN by decide) CQ (by rw [h,tf_zero])
  cases this
 no2:=fun x y h hy=>by
  subst hy
  have h1:x*x*x+DG=0:=by
   rw [← h]
   grind
  have h2:tf (x.val^3+4)=0:=by
   rw [F',Nat.pow_succ,Nat.pow_succ,Nat.pow_one,L9,L9,B_]
   exact h1
  exact AMR (by decide) (by decide) AMQ x.val (WH.1 h2)
end Go.Proofs.YtjlcdlekmpjjnaaGreat
namespace Go.Proofs.YtjlcdlekmpjjnaaGreat
open Ex Num Rg
set_option maxRecDepth 100000
set_option maxHeartbeats 4000000
def Ba (x y:Nat) (i:Bool):AV:=.val true [.num 6 x,.num 6 y,.v (.bool i)]
def P3 (cs:List Ch):Option (Nat×Nat×Bool):=match E4 cs 6 with
 | some (a,r)=>match E4 r 6 with
  | some (b,[c])=>match CP 6 a,CP 6 b,Eg (some (.val false [c])) with
   | some x,some y,some (_,i)=>some (x,y,i)
   | _,_,_=>none
  | _=>none
 | none=>none
theorem G' {β β':Env} {cs:List Ch} {x y:Nat} {i:Bool} {u:Value} (h:P3 cs=some (x,y,i)) (hr:AP β (.val true cs) u):AP β' (Ba x y i) u∧x<RR∧y<RR:=by
 unfold P3 at h
 split at h
 case h_2=>cases h
 rename_i a r h1
 split at h
 case h_2=>cases h
 rename_i b c h2
 split at h
 case h_2=>cases h
 rename_i x' y' c0 i' h3 h4 h5
 injection h with h;injection h with e1 h;injection h with e2 e3
 subst e1;subst e2;subst e3
 obtain ⟨l,hl,rfl⟩:=hr
 obtain ⟨q1,q2,q3⟩:=HN h1 hl
 obtain ⟨r1,r2,r3⟩:=HN h2 q2
 obtain ⟨ea,la⟩:=F1 h3 q1
 obtain ⟨eb,lb⟩:=F1 h4 r1
 obtain ⟨l1,l2,hc1,hc2,hc3⟩:=r2
 simp only [AN] at hc2
 subst hc2
 have hlen:=O1 hc1
 have hsz:D_ c=1:=by
  unfold Eg at h5
  split at h5
  ·rename_i _ _ hq;injection hq with hq;injection hq with _ hq;injection hq with hq _;rw [hq];rfl
  ·rename_i _ _ hq;injection hq with hq;injection hq with _ hq;injection hq with hq _;rw [hq];rfl
  ·cases h5
 rw [hsz] at hlen
 obtain ⟨w,rfl⟩:=List.length_eq_one_iff.1 hlen
 have hw:w=.bool i':=Hz (β:=β) (u:=w) (fun A hA=>by injection hA with hA;subst hA;exact ⟨[w],[],hc1,rfl,rfl⟩) h5
 subst hw
 rw [CZ]
 refine ⟨⟨l,⟨_,_,⟨la,rfl⟩,⟨_,_,⟨lb,rfl⟩,⟨[.bool i'],[],⟨rfl,rfl,trivial⟩,rfl,rfl⟩,rfl⟩,?_⟩,rfl⟩,la,lb⟩
 rw [← ea,← eb,← hc3,List.take_append_drop,List.take_append_drop]
def Ah (x y:Nat) (i:Bool):Pt FP:=match i with
 | true=>.inf
 | false=>.pt (tf x) (tf y)
def Cz:Pt FP→Nat
 | .inf=>0
 | .pt a _=>a.val
def BT:Pt FP→Nat
 | .inf=>0
 | .pt _ b=>b.val
def BL:Pt FP→Bool
 | .inf=>true
 | .pt _ _=>false
def HA (P:Pt FP):AV:=Ba (Cz P) (BT P) (BL P)
theorem MF (P:Pt FP):Cz P<pN:=by cases P with | inf=>exact CQ | pt a b=>exact a.isLt
theorem Wr (P:Pt FP):BT P<pN:=by cases P with | inf=>exact CQ | pt a b=>exact b.isLt
theorem MG (P:Pt FP):Ah (Cz P) (BT P) (BL P)=P:=by
 cases P with
 | inf=>rfl
 | pt a b=>show Pt.pt (tf a.val) (tf b.val)=_;rw [B_,B_]
theorem AMS (x y:Nat):HA (.pt (tf x) (tf y))=Ba (x % pN) (y % pN) false:=rfl
theorem zK {x y:Nat} {a b:FP} (hx:x<pN) (hy:y<pN) (ha:tf x=a) (hb:tf y=b):Ba x y false=HA (.pt a b):=by
 rw [← ha,← hb,AMS,Nat.mod_eq_of_lt hx,Nat.mod_eq_of_lt hy]
theorem KM {P:Program} {f:FuncId} {args:List AV} {cs:List Ch} {x y:Nat} {i:Bool} (h:AU P f args (.val true cs)) (hc:P3 cs=some (x,y,i)):AU P f args (Ba x y i):=C7 h fun _ hu=>(G' hc hu).1
def MH (g:Pt FP→AV):List AV→Option AV
 | [.val true a]=>match P3 a with
  | some (x,y,i)=>some (g (Ah x y i))
  | none=>none
 | _=>none
theorem P4 {f:FuncId} {g:Pt FP→AV} (h:∀ x y i,AU Tryz.prog f [Ba x y i] (g (Ah x y i))):∀ args v,MH g args=some v→AU Tryz.prog f args v:=by
 intro args v hs us w ha
 unfold MH at hs
 split at hs
 case h_2=>cases hs
 rename_i a
 split at hs
 case h_2=>cases hs
 rename_i x y i hx
 injection hs with hs;subst hs
 obtain ⟨u1,us1,r1,ha,rfl⟩:=ha
 exact h x y i _ w ⟨u1,_,(G' hx r1).1,ha,rfl⟩
theorem AMT:AR Tryz.prog (AH S0 K0) Tryz.f132 [] [] 100=some ([],.val true [.n .u64 4,.n .u64 0,.n .u64 0,.n .u64 0,.n .u64 0,.n .u64 0]):=by kernel_rfl
theorem AMU:AU Tryz.prog 132 [] (AY 4):=C7 (AW (AK G2 Aa) AB Tryz.func132 AMT trivial rfl) fun u hu=>TH (by kernel_rfl) hu
def gX:Nat:=0x17f1d3a73197d7942695638c4fa9ac0fc3688c4f9774b905a14e3a3f171bac586c55e83ff97a1aeffb3af00adb22c6bb
def gY:Nat:=0x08b3f481e3aaa0f1a09e30ed741d8ae4fcf5e095d5d00af600db18cb2c04b3edd03cc744a2888ae40caa232946c5e7e1
def gC:List Ch:=[.n .u64 0xfb3af00adb22c6bb,.n .u64 0x6c55e83ff97a1aef,.n .u64 0xa14e3a3f171bac58,.n .u64 0xc3688c4f9774b905,.n .u64 0x2695638c4fa9ac0f,.n .u64 0x17f1d3a73197d794,
 .n .u64 0xcaa232946c5e7e1,.n .u64 0xd03cc744a2888ae4,.n .u64 0xdb18cb2c04b3ed,.n .u64 0xfcf5e095d5d00af6,.n .u64 0xa09e30ed741d8ae4,.n .u64 0x8b3f481e3aaa0f1,.b false]
theorem AMV:AR Tryz.prog (AH S0 K0) Tryz.f23 [] [] 100=some ([],.val true gC):=by kernel_rfl
def G1B:Pt FP:=.pt (tf gX) (tf gY)
theorem AMW:Nat.blt gX pN=true:=by kernel_rfl
theorem AMX:Nat.blt gY pN=true:=by kernel_rfl
theorem zL:Ba gX gY false=HA G1B:=zK (A8.1 AMW) (A8.1 AMX) rfl rfl
theorem AMY:AU Tryz.prog 23 [] (HA G1B):=by
 rw [← zL]
 exact KM (AW (AK G2 Aa) AB Tryz.func23 AMV trivial rfl) (by kernel_rfl)
def Er (i:Bool):List Ch:=[.n .u64 0,.n .u64 0,.n .u64 0,.n .u64 0,.n .u64 0,.n .u64 0,.n .u64 0,.n .u64 0,.n .u64 0,.n .u64 0,.n .u64 0,.n .u64 0,.b i]
theorem AMZ (x y:Nat) (i:Bool):AR Tryz.prog (AH SE K0) Tryz.f69 [Ba x y i] [true] 300=some ([(i,true)],.val true (Er true)):=by kernel_rfl
theorem AMa (x y:Nat) (i:Bool):AR Tryz.prog (AH SE K0) Tryz.f69 [Ba x y i] [false] 300=some ([(i,false)],.val true [.num 6 (x % pN),.num 6 (y % pN),.b false]):=by kernel_rfl
theorem AMb (x y:Nat) (i:Bool):AU Tryz.prog 69 [Ba x y i] (HA (Ah x y i)):=by
 cases i with
 | true=>exact KM (AW (AK fW Aa) AB Tryz.func69 (AMZ x y true) ⟨rfl,trivial⟩ rfl) (by kernel_rfl)
 | false=>exact KM (AW (AK fW Aa) AB Tryz.func69 (AMa x y false) ⟨rfl,trivial⟩ rfl) (by kernel_rfl)
noncomputable def SG0:List (FuncId×ASpec):=(132,Aj fun args=>match args with | []=>some (AY 4) | _=>none)::(23,Aj fun args=>match args with | []=>some (HA G1B) | _=>none)::(69,Aj (MH HA))::SE
theorem gD:AX Tryz.prog SG0:=⟨Ak Tryz.func132 (by kernel_rfl) (by kernel_rfl) (Nj AMU fun u h=>h),Ak Tryz.func23 (by kernel_rfl) (by kernel_rfl) (Nj AMY fun u h=>h),Ak Tryz.func69 (by kernel_rfl) (by kernel_rfl) (P4 AMb),fW⟩
theorem zM {n:Nat} (h:n<pN):tf (BM n)=KL (tf n):=by unfold KL;rw [KK h]
theorem Ws {b:FP}:b.val=0↔b=0:=by rw [Fin.ext_iff];exact Iff.rfl
noncomputable def CA:Pt FP→Bool
 | .inf=>true
 | .pt a b=>decide (b*b=a*a*a+DG)
theorem P6 (P:Pt FP):CA P=true↔Rg.On C1.b P:=by
 cases P with
 | inf=>exact ⟨fun _=>trivial,fun _=>rfl⟩
 | pt a b=>exact decide_eq_true_iff
theorem AMc (x y:Nat) (i:Bool):AR Tryz.prog (AH SG0 K0) Tryz.f70 [Ba x y i] [true] 300=some ([(i,true)],.val false [.b true]):=by kernel_rfl
theorem AMd (x y:Nat) (i:Bool):AR Tryz.prog (AH SG0 K0) Tryz.f70 [Ba x y i] [false] 300=some ([(i,false)],BB (decide (Ag y y=DL (Ag (Ag x x) x) 4))):=by kernel_rfl
theorem gE (x y:Nat):decide (Ag y y=DL (Ag (Ag x x) x) 4)=CA (Ah x y false):=by
 have e:(Ag y y=DL (Ag (Ag x x) x) 4)↔(tf y*tf y=tf x*tf x*tf x+DG):=by
  constructor
  ·intro h
   have:=congrArg tf h
   simpa [Bu,HY,DG] using this
  ·intro h
   exact J' (J6 _ _) (WG _ _) (by simpa [Bu,HY,DG] using h)
 show _=decide (tf y*tf y=tf x*tf x*tf x+DG)
 by_cases h:Ag y y=DL (Ag (Ag x x) x) 4
 ·rw [decide_eq_true h,decide_eq_true (e.1 h)]
 ·rw [decide_eq_false h,decide_eq_false fun q=>h (e.2 q)]
theorem AMe (x y:Nat) (i:Bool):AU Tryz.prog 70 [Ba x y i] (BB (CA (Ah x y i))):=by
 cases i with
 | true=>exact C7 (AW (AK gD Aa) AB Tryz.func70 (AMc x y true) ⟨rfl,trivial⟩ rfl) fun u hu=>It rfl hu
 | false=>rw [← gE];exact AW (AK gD Aa) AB Tryz.func70 (AMd x y false) ⟨rfl,trivial⟩ rfl
section
variable (x y:Nat) (i:Bool) (x' y':Nat) (i':Bool)
end
noncomputable def SG1:List (FuncId×ASpec):=(70,Aj (MH fun P=>BB (CA P)))::SG0
theorem zO:AX Tryz.prog SG1:=⟨Ak Tryz.func70 (by kernel_rfl) (by kernel_rfl) (P4 AMe),gD⟩
def C9 (x y z:Nat):AV:=.val true [.num 6 x,.num 6 y,.num 6 z]
def Hi (j:J FP):AV:=C9 j.x.val j.y.val j.z.val
def BW (x y z:Nat):J FP:=⟨tf x,tf y,tf z⟩
def N2 (cs:List Ch):Option (Nat×Nat×Nat):=match E4 cs 6 with
 | some (a,r)=>match E4 r 6 with
  | some (b,c)=>match CP 6 a,CP 6 b,CP 6 c with
   | some x,some y,some z=>some (x,y,z)
   | _,_,_=>none
  | _=>none
 | none=>none
theorem P7 {β β':Env} {cs:List Ch} {x y z:Nat} {u:Value} (h:N2 cs=some (x,y,z)) (hr:AP β (.val true cs) u):AP β' (C9 x y z) u:=by
 unfold N2 at h
 split at h
 case h_2=>cases h
 rename_i a r h1
 split at h
 case h_2=>cases h
 rename_i b c h2
 split at h
 case h_2=>cases h
 rename_i x' y' z' h3 h4 h5
 injection h with h;injection h with e1 h;injection h with e2 e3
 subst e1;subst e2;subst e3
 obtain ⟨l,hl,rfl⟩:=hr
 obtain ⟨q1,q2,q3⟩:=HN h1 hl
 obtain ⟨r1,r2,r3⟩:=HN h2 q2
 obtain ⟨ea,la⟩:=F1 h3 q1
 obtain ⟨eb,lb⟩:=F1 h4 r1
 obtain ⟨ec,lc⟩:=F1 h5 r2
 refine ⟨l,⟨_,_,⟨la,rfl⟩,⟨_,_,⟨lb,rfl⟩,⟨_,[],⟨lc,rfl⟩,rfl,rfl⟩,rfl⟩,?_⟩,rfl⟩
 rw [← ea,← eb,← ec,List.append_nil,List.take_append_drop,List.take_append_drop]
theorem MI {x y z:Nat} {j:J FP} (hx:x<pN) (hy:y<pN) (hz:z<pN) (ex:tf x=j.x) (ey:tf y=j.y) (ez:tf z=j.z):C9 x y z=Hi j:=by
 unfold Hi
 rw [← ME hx ex,← ME hy ey,← ME hz ez]
def nE (x:Nat):Nat:=DL (DL (Ag x x) (Ag x x)) (Ag x x)
def nD (x y:Nat):Nat:=DL (DL (Ag x (Ag y y)) (Ag x (Ag y y))) (DL (Ag x (Ag y y)) (Ag x (Ag y y)))
def gG (y:Nat):Nat:=DL (Ag (Ag y y) (Ag y y)) (Ag (Ag y y) (Ag y y))
def gH (y:Nat):Nat:=DL (gG y) (gG y)
def zP (y:Nat):Nat:=DL (gH y) (gH y)
def nX (x y:Nat):Nat:=DW (Ag (nE x) (nE x)) (DL (nD x y) (nD x y))
def nY (x y:Nat):Nat:=DW (Ag (nE x) (DW (nD x y) (nX x y))) (zP y)
theorem AMf (x y z:Nat):AR Tryz.prog (AH SG1 K0) Tryz.f71 [C9 x y z] [] 500=some ([],C9 (nX x y) (nY x y) (DL (Ag y z) (Ag y z))):=by kernel_rfl
theorem zQ (x y:Nat):tf (nX x y)=jX (tf x) (tf y):=by
 unfold nX nE nD jX jE jD
 simp only [GA,Bu,HY]
theorem AMg (x y:Nat):tf (nY x y)=jE (tf x)*(jD (tf x) (tf y)-jX (tf x) (tf y))-Pz (tf y):=by
 unfold nY
 rw [GA,Bu,GA,zQ]
 unfold nE nD zP gH gG jE jD Pz Wp jC2
 simp only [Bu,HY]
theorem AMh (x y z:Nat):AU Tryz.prog 71 [C9 x y z] (Hi (BV (BW x y z))):=by
 rw [← MI (j:=BV (BW x y z)) (GB _ _) (GB _ _) (WG _ _) (zQ x y) (AMg x y) (by rw [HY,Bu];rfl)]
 exact AW (AK zO Aa) AB Tryz.func71 (AMf x y z) trivial rfl
def Wt (g:J FP→AV):List AV→Option AV
 | [.val true a]=>match N2 a with
  | some (x,y,z)=>some (g (BW x y z))
  | none=>none
 | _=>none
theorem zS {f:FuncId} {g:J FP→AV} (h:∀ x y z,AU Tryz.prog f [C9 x y z] (g (BW x y z))):∀ args v,Wt g args=some v→AU Tryz.prog f args v:=by
 intro args v hs us w ha
 unfold Wt at hs
 split at hs
 case h_2=>cases hs
 rename_i a
 split at hs
 case h_2=>cases hs
 rename_i x y z hx
 injection hs with hs;subst hs
 obtain ⟨u1,us1,r1,ha,rfl⟩:=ha
 exact h x y z _ w ⟨u1,_,P7 hx r1,ha,rfl⟩
noncomputable def SG2:List (FuncId×ASpec):=(71,Aj (Wt fun j=>Hi (BV j)))::SG1
theorem MJ:AX Tryz.prog SG2:=⟨Ak Tryz.func71 (by kernel_rfl) (by kernel_rfl) (zS AMh),zO⟩
def nH (x z a:Nat):Nat:=DW (Ag a (Ag z z)) x
def nR (y z b:Nat):Nat:=DW (Ag b (Ag (Ag z z) z)) y
def KN (x h r:Nat):Nat:=DW (DW (Ag r r) (Ag (Ag h h) h)) (DL (Ag x (Ag h h)) (Ag x (Ag h h)))
def P8 (x y h r:Nat):Nat:=DW (Ag r (DW (Ag x (Ag h h)) (KN x h r))) (Ag y (Ag (Ag h h) h))
section
variable (x y z a b:Nat) (i:Bool)
theorem AMi:AR Tryz.prog (AH SG2 K0) Tryz.f72 [C9 x y z,Ba a b i] [true] 500=some ([(decide (z=0),true)],.val true (.num 6 a::.num 6 b::fO)):=by kernel_rfl
theorem AMj:AR Tryz.prog (AH SG2 K0) Tryz.f72 [C9 x y z,Ba a b i] [false,true,true] 500=some ([(decide (z=0),false),(decide (nH x z a=0),true),(decide (nR y z b=0),true)],Hi (BV (BW x y z))):=by kernel_rfl
theorem AMk:AR Tryz.prog (AH SG2 K0) Tryz.f72 [C9 x y z,Ba a b i] [false,true,false,true] 500=some ([(decide (z=0),false),(decide (nH x z a=0),true),(decide (nR y z b=0),false),(decide (nH x z a=0),true)],.val true (List.replicate 18 (.n .u64 0))):=by kernel_rfl
theorem AMl:AR Tryz.prog (AH SG2 K0) Tryz.f72 [C9 x y z,Ba a b i] [false,false,false] 500=some ([(decide (z=0),false),(decide (nH x z a=0),false),(decide (nH x z a=0),false)],C9 (KN x (nH x z a) (nR y z b)) (P8 x y (nH x z a) (nR y z b)) (Ag z (nH x z a))):=by kernel_rfl
end
theorem zT (x y z a:Nat):tf (nH x z a)=pH (BW x y z) (tf a):=by unfold nH pH BW;simp only [GA,Bu]
theorem zU (x y z b:Nat):tf (nR y z b)=pR (BW x y z) (tf b):=by unfold nR pR BW;simp only [GA,Bu]
theorem Iz {n:Nat} (h:n<pN):n=0↔tf n=0:=by
 constructor
 ·rintro rfl;exact tf_zero
 ·intro e;exact J' h CQ (e.trans tf_zero.symm)
theorem Wu {P:Program} {f:FuncId} {args:List AV} {cs:List Ch} {x y z:Nat} (h:AU P f args (.val true cs)) (hc:N2 cs=some (x,y,z)):AU P f args (C9 x y z):=C7 h fun _ hu=>P7 hc hu
theorem AMm {x y z a b:Nat} {i:Bool} (hz:z<pN) (ha:a<pN) (hb:b<pN):AU Tryz.prog 72 [C9 x y z,Ba a b i] (Hi (FA (BW x y z) (tf a) (tf b))):=by
 have eh:=zT x y z a
 have er:=zU x y z b
 have zh:=Iz (n:=nH x z a) (GB _ _)
 have zr:=Iz (n:=nR y z b) (GB _ _)
 rw [eh] at zh
 rw [er] at zr
 unfold FA
 by_cases h0:z=0
 ·rw [if_pos (show (BW x y z).z=0 from (Iz hz).1 h0),← MI (j:=⟨tf a,tf b,1⟩) ha hb (show 1<pN by decide) rfl rfl En]
  exact Wu (AW (AK MJ Aa) AB Tryz.func72 (AMi x y z a b i) ⟨decide_eq_true h0,trivial⟩ rfl) rfl
 ·rw [if_neg (show ¬ (BW x y z).z=0 from fun e=>h0 ((Iz hz).2 e))]
  by_cases hh:nH x z a=0
  ·rw [if_pos (zh.1 hh)]
   by_cases hr:nR y z b=0
   ·rw [if_pos (zr.1 hr)]
    exact AW (AK MJ Aa) AB Tryz.func72 (AMj x y z a b i) ⟨decide_eq_false h0,decide_eq_true hh,decide_eq_true hr,trivial⟩ rfl
   ·rw [if_neg (fun e=>hr (zr.2 e)),← MI (j:=⟨0,0,0⟩) CQ CQ CQ tf_zero tf_zero tf_zero]
    exact Wu (AW (AK MJ Aa) AB Tryz.func72 (AMk x y z a b i) ⟨decide_eq_false h0,decide_eq_true hh,decide_eq_false hr,decide_eq_true hh,trivial⟩ rfl) (by kernel_rfl)
  ·rw [if_neg (fun e=>hh (zh.2 e)),← MI (j:=⟨pX (BW x y z).x (pH (BW x y z) (tf a)) (pR (BW x y z) (tf b)),pY (BW x y z).x (BW x y z).y (pH (BW x y z) (tf a)) (pR (BW x y z) (tf b)),(BW x y z).z*pH (BW x y z) (tf a)⟩)
    (x:=KN x (nH x z a) (nR y z b)) (y:=P8 x y (nH x z a) (nR y z b)) (z:=Ag z (nH x z a)) (GB _ _) (GB _ _) (J6 _ _) ?_ ?_ ?_]
   ·exact AW (AK MJ Aa) AB Tryz.func72 (AMl x y z a b i) ⟨decide_eq_false h0,decide_eq_false hh,decide_eq_false hh,trivial⟩ rfl
   ·unfold KN pX;simp only [GA,Bu,HY,eh,er];rfl
   ·unfold P8 KN pY pX;simp only [GA,Bu,HY,eh,er];rfl
   ·rw [Bu,eh];rfl
noncomputable def P9:List AV→Option (List (Bool×Bool)×AV)
 | [.val true a,.val true b]=>match N2 a,P3 b with
  | some (x,y,z),some (p,q,_)=>some ([(decide (z<pN),true),(decide (p<pN),true),(decide (q<pN),true)],Hi (FA (BW x y z) (tf p) (tf q)))
  | _,_=>none
 | _=>none
theorem AMn:∀ args c v,P9 args=some (c,v)→AQ c→AU Tryz.prog 72 args v:=by
 intro args c v hs hc us w ha
 unfold P9 at hs
 split at hs
 case h_2=>cases hs
 rename_i a b
 split at hs
 case h_2=>cases hs
 rename_i x y z p q i hx hy
 injection hs with hs;injection hs with h1 h2;subst h1;subst h2
 obtain ⟨u1,us1,r1,⟨u2,us2,r2,ha,rfl⟩,rfl⟩:=ha
 exact AMm (of_decide_eq_true hc.1) (of_decide_eq_true hc.2.1) (of_decide_eq_true hc.2.2.1) _ w ⟨u1,_,P7 hx r1,⟨u2,_,(G' hy r2).1,ha,rfl⟩,rfl⟩
def KG:List (TypeId×List (Option IntKind)):=(93,List.replicate 18 (some .u64))::K0
theorem C0:Jo Tryz.prog KG:=⟨⟨by kernel_rfl,by kernel_rfl,by kernel_rfl⟩,Aa⟩
def z3 (x y z:Nat):Bool:=decide (x=0)&&(decide (y=0)&&decide (z=0))
theorem AMo (x y z:Nat):AR Tryz.prog (AH SG2 KG) Tryz.f73 [C9 x y z] [true] 500=some ([(z3 x y z,true)],.val true (Er true)):=by kernel_rfl
theorem AMp (x y z:Nat):AR Tryz.prog (AH SG2 KG) Tryz.f73 [C9 x y z] [false,true] 500=some ([(z3 x y z,false),(decide (z=0),true)],.val true (Er true)):=by kernel_rfl
theorem AMq (x y z:Nat):AR Tryz.prog (AH SG2 KG) Tryz.f73 [C9 x y z] [false,false] 500=some ([(z3 x y z,false),(decide (z=0),false)],.val true [.num 6 (Ag x (Ag (BM z) (BM z))),.num 6 (Ag y (Ag (Ag (BM z) (BM z)) (BM z))),.b false]):=by kernel_rfl
theorem AMr {x y z:Nat} (hz:z<pN):AU Tryz.prog 73 [C9 x y z] (HA (CU (BW x y z))):=by
 by_cases h0:z=0
 ·rw [GU (j:=BW x y z) ((Iz hz).1 h0)]
  cases h3:z3 x y z with
  | true=>exact KM (AW (AK MJ C0) AB Tryz.func73 (AMo x y z) ⟨h3,trivial⟩ rfl) (by kernel_rfl)
  | false=>exact KM (AW (AK MJ C0) AB Tryz.func73 (AMp x y z) ⟨h3,decide_eq_true h0,trivial⟩ rfl) (by kernel_rfl)
 ·have h3:z3 x y z=false:=by unfold z3;rw [decide_eq_false h0,Bool.and_false,Bool.and_false]
  rw [IL (j:=BW x y z) (fun e=>h0 ((Iz hz).2 e))]
  have ei:tf (BM z)=FD.inv (tf z):=zM hz
  rw [← zK (x:=Ag x (Ag (BM z) (BM z))) (y:=Ag y (Ag (Ag (BM z) (BM z)) (BM z))) (J6 _ _) (J6 _ _) (by rw [Bu,Bu,ei];rfl) (by rw [Bu,Bu,Bu,ei];rfl)]
  exact KM (AW (AK MJ C0) AB Tryz.func73 (AMq x y z) ⟨h3,decide_eq_false h0,trivial⟩ rfl) rfl
noncomputable def gJ:List AV→Option (List (Bool×Bool)×AV)
 | [.val true a]=>match N2 a with
  | some (x,y,z)=>some ([(decide (z<pN),true)],HA (CU (BW x y z)))
  | _=>none
 | _=>none
theorem AMs:∀ args c v,gJ args=some (c,v)→AQ c→AU Tryz.prog 73 args v:=by
 intro args c v hs hc us w ha
 unfold gJ at hs
 split at hs
 case h_2=>cases hs
 rename_i a
 split at hs
 case h_2=>cases hs
 rename_i x y z hx
 injection hs with hs;injection hs with h1 h2;subst h1;subst h2
 obtain ⟨u1,us1,r1,ha,rfl⟩:=ha
 exact AMr (of_decide_eq_true hc.1) _ w ⟨u1,_,P7 hx r1,ha,rfl⟩
noncomputable def SG3:List (FuncId×ASpec):=(72,EE P9)::(73,EE gJ)::SG2
theorem N3:AX Tryz.prog SG3:=⟨El Tryz.func72 (by kernel_rfl) (by kernel_rfl) AMn,El Tryz.func73 (by kernel_rfl) (by kernel_rfl) AMs,MJ⟩
theorem zV {H0:Heap} {k b:Nat} {blk blk' x:Blk} (h:AG (H0++[(k,some blk')]) b=some x):AG (H0++[(k,some blk)]) b=some x∨(x=blk'∧AG (H0++[(k,some blk)]) b=some blk):=by
 induction H0 with
 | nil =>
  simp only [List.nil_append,AG] at h ⊢
  cases e:Nat.beq k b with
  | true=>rw [e] at h;injection h with h;exact .inr ⟨h.symm,rfl⟩
  | false=>rw [e] at h;cases h
 | cons y r ih =>
  obtain ⟨j,z⟩:=y
  simp only [List.cons_append,AG] at h ⊢
  cases e:Nat.beq j b with
  | true=>rw [e] at h;exact .inl h
  | false=>rw [e] at h;exact ih h
theorem zW {β:Env} {ty:TypeId} {cs cs':List Ch} {o:Bool} {k:Nat} {w:World} (h:∀ β l,AN β cs l→AN β cs' l) (hr:EI β ⟨ty,cs,o⟩ k w):EI β ⟨ty,cs',o⟩ k w:=by
 rcases hr with ⟨B,n,l,t,pre,ty',fz,q1,q2,q3⟩ | ⟨q1,q2,q3⟩
 ·exact .inl ⟨B,n,l,t,pre,ty',fz,q1,h _ _ q2,q3⟩
 ·exact .inr ⟨q1,q2,h _ _ q3⟩
theorem AMt {β:Env} {H0:Heap} {k:Nat} {ty:TypeId} {cs cs':List Ch} {o:Bool} {w:World} (h:∀ β l,AN β cs l→AN β cs' l) (g:Ex.Good β (H0++[(k,some ⟨ty,cs,o⟩)]) w):Ex.Good β (H0++[(k,some ⟨ty,cs',o⟩)]) w:=by
 have hs:∀ b x,AG (H0++[(k,some ⟨ty,cs',o⟩)]) b=some x→∃ y,AG (H0++[(k,some ⟨ty,cs,o⟩)]) b=some y∧y.ty=x.ty:=fun b x hb=>by
  rcases zV (blk:=⟨ty,cs,o⟩) hb with e | ⟨rfl,e⟩
  ·exact ⟨x,e,rfl⟩
  ·exact ⟨_,e,rfl⟩
 refine ⟨fun b blk hb=>?_,fun b b' B n n' h1 h2 h3 h4=>?_,g.lt⟩
 ·rcases zV (blk:=⟨ty,cs,o⟩) hb with e | ⟨rfl,e⟩
  ·exact g.heap b blk e
  ·exact zW h (g.heap b _ e)
 ·obtain ⟨x,hx,hr⟩:=F0 h1
  obtain ⟨y,hy,e⟩:=hs b x hx
  obtain ⟨x',hx'⟩:=Option.isSome_iff_exists.1 h2
  obtain ⟨y',hy',_⟩:=hs b' x' hx'
  exact g.inj b b' B n n' (Ef hy (by rw [e];exact hr)) (by rw [hy'];rfl) h3 h4
theorem Wv {P:Program} {f:FuncId} {β0:Env} {w0:World} {R:Ending→World→Prop} {n:Nat} {W:List Nat} {todo:List Item} {T:List AV} {H0:Heap} {k:Nat} {ty:TypeId} {cs cs':List Ch} {o:Bool} {fr:Nat} {p:List Bool} (h:∀ β l,AN β cs l→AN β cs' l)
  (hs:ASafe P f β0 w0 R n W ⟨todo,⟨T,H0++[(k,some ⟨ty,cs',o⟩)],fr,p⟩⟩):ASafe P f β0 w0 R n W ⟨todo,⟨T,H0++[(k,some ⟨ty,cs,o⟩)],fr,p⟩⟩ :=
 fun β a w hi hf=>hs β a w { hi with good:=AMt h hi.good } hf
noncomputable def AMu:List Item:=Be (AS Tryz.prog (AH SG3 KG) (some 0) 500 1 none (Af Tryz.f22 [AI 0 0 0 0,Ba 0 0 false] (Az []) 1 [false,false]))
noncomputable def gmT (off n m:Nat) (i:Int):List AV:=.val false [.sl 0 off n m]::.any::.any::.val false [.p 1 0]::.val false [.p 2 0]::.val false [.n .i64 0]::.val false [.p 3 0]::.val false [.v (.int .i64 i)]::List.replicate (Tryz.f22.ntmps-8) .any
noncomputable def gmH (xs:List Int) (P:Pt FP):Heap:=[(0,some (Ai [.seq .u64 xs])),(1,some ⟨32,[.num 6 (Cz P),.num 6 (BT P),.v (.bool (BL P))],false⟩),(2,some ⟨32,Er false,false⟩)]
noncomputable def KO (off n m:Nat) (xs:List Int) (P:Pt FP) (out:List Ch) (i:Int) (path:List Bool):ASt:=⟨AMu,⟨gmT off n m i,List.append (gmH xs P) [(3,some ⟨93,out,false⟩)],4,path⟩⟩
def jC (j:J FP):List Ch:=[.num 6 j.x.val,.num 6 j.y.val,.num 6 j.z.val]
def Ww:List Ch:=[.n .u64 0,.n .u64 0,.n .u64 0,.n .u64 0,.n .u64 0,.n .u64 0,.n .u64 0,.n .u64 0,.n .u64 0,.n .u64 0,.n .u64 0,.n .u64 0,.n .u64 0,.n .u64 0,.n .u64 0,.n .u64 0,.n .u64 0,.n .u64 0]
def FS (j:J FP):J FP:=BW j.x.val j.y.val j.z.val
theorem Tw (j:J FP):FS j=j:=by
 unfold FS BW
 rw [B_,B_,B_]
noncomputable def Wx (j:J FP) (P:Pt FP):J FP:=FA (FS (BV (FS j))) (tf (Cz P)) (tf (BT P))
def I0 (x y:Nat) (i:Bool) (off n m:Nat):List AV:=[AI 0 off n m,Ba x y i]
def Wy (P:Pt FP):Pt FP:=Ah (Cz P) (BT P) (BL P)
theorem AMx (x y:Nat) (i:Bool) (off n m:Nat) (xs:List Int):AS Tryz.prog (AH SG3 KG) (some 0) 500 1 (some ([0,3,4,5,6,7],[0,1,2,3],4)) (Af Tryz.f22 (I0 x y i off n m) (Az xs) 1 [false,false]) =
 some ([(!CA (Wy (Ah x y i)),false),(BL (Ah x y i),false),(AJ .i64 n,true)],[],KO off n m xs (Ah x y i) Ww (wI (wI (64*(n:Int))-1)) []):=by kernel_rfl
def MK (Q:Pt FP) (e:Int):AV:=.tup [(true,[.num 6 (Cz Q),.num 6 (BT Q),.v (.bool (BL Q))]),(false,[.v (.int .i64 e)])]
def Tx (Q:Pt FP) (e:Int):AV:=.tup [(true,[.num 6 (Cz Q),.num 6 (BT Q),.v (.bool (BL Q))]),(false,[.n .i64 e])]
theorem AMy (x y:Nat) (i:Bool) (off n m:Nat) (xs:List Int):AM Tryz.prog (AH SG3 KG) Tryz.f22 500 1 [] (Af Tryz.f22 (I0 x y i off n m) (Az xs) 1 [true]) =
 some ([(!CA (Wy (Ah x y i)),true)],[],.tup [(true,Er false),(false,[.n .i64 120])],[]):=by kernel_rfl
theorem AMz (x y:Nat) (i:Bool) (off n m:Nat) (xs:List Int):AM Tryz.prog (AH SG3 KG) Tryz.f22 500 1 [] (Af Tryz.f22 (I0 x y i off n m) (Az xs) 1 [false,true]) =
 some ([(!CA (Wy (Ah x y i)),false),(BL (Ah x y i),true)],[],Tx (Ah x y i) 0,[]):=by kernel_rfl
def P_ (off n:Nat) (xs:List Int) (i:Int) (Bs:Bool) (r:List (Bool×Bool)):List (Bool×Bool):=(decide (0≤i),true)::(true,true)::(decide (0≤wI (Int.tdiv i 64)∧wI (Int.tdiv i 64)<n),true) ::
 (decide (off+(wI (Int.tdiv i 64)).toNat*1<xs.length),true)::(decide (0≤i∧(0:Int)<64),true)::(decide (0≤Int.tmod i 64∧0≤B6 xs off i),true)::(decide (IB (B6 xs off i) (Int.tmod i 64)=0),Bs)::r
section
variable (off n m:Nat) (xs:List Int) (P:Pt FP) (j:J FP) (i:Int)
theorem AM0:AS Tryz.prog (AH SG3 KG) (some 0) 500 1 (some ([0,3,4,5,6,7],[0,1,2,3],4)) (KO off n m xs P (jC j) i [true,true]) =
 some (P_ off n xs i true [],[],KO off n m xs P (jC (BV (FS j))) (wI (i-1)) []):=by kernel_rfl
theorem AM1:AS Tryz.prog (AH SG3 KG) (some 0) 500 1 (some ([0,3,4,5,6,7],[0,1,2,3],4)) (KO off n m xs P (jC j) i [true,false]) =
 some (P_ off n xs i false [(decide ((BV (FS j)).z.val<pN),true),(decide (Cz P<pN),true),(decide (BT P<pN),true)],[],KO off n m xs P (jC (Wx j P)) (wI (i-1)) []):=by kernel_rfl
theorem AM2:AM Tryz.prog (AH SG3 KG) Tryz.f22 500 1 [] (KO off n m xs P (jC j) i [false]) =
 some ([(decide (0≤i),false),(decide (j.z.val<pN),true)],[],Tx (CU (FS j)) 0,[]):=by kernel_rfl
end
theorem gK (off n m:Nat) (xs:List Int) (P:Pt FP) (j:J FP) (i:Int) (p:List Bool):B4 Tryz.f22.ntmps (KO off n m xs P (jC j) i p).s:=AL (by kernel_rfl)
theorem zX (β:Env) (l:List Value) (h:AN β Ww l):AN β (jC ⟨0,0,0⟩) l:=by
 have h3:N2 Ww=some (0,0,0):=by kernel_rfl
 obtain ⟨l',q,e⟩:=P7 (β':=β) (u:=.agg ⟨l⟩) h3 ⟨l,h,rfl⟩
 injection e with e;injection e with e;subst e
 exact q
def Hj (P:Pt FP) (E c:Nat) (j:J FP):Prop:=CU j=BH (E / 2^c) P
section
variable {off n m:Nat} {xs:List Int} (hall:∀ d∈xs,0≤d∧d<18446744073709551616) (hlen:off+n≤xs.length) (hn:n≤1125899906842624) {P:Pt FP} (hP:Rg.On C1.b P) (hI:BL P=false) {β0:Env} {w0:World} (hb:∀ b,1≤b→β0 b=none)
include hall hlen hn hb hP hI
theorem AM3:∀ (c:Nat) (j:J FP),Hj P (AF (AA xs off n)) c j→c≤64*n→ASafe Tryz.prog 22 β0 w0 (Ay β0 w0 [] (Tx (BH (AF (AA xs off n)) P) 0) []) Tryz.f22.ntmps [] (KO off n m xs P (jC j) ((c:Int)-1) []):=by
 intro c
 induction c with
 | zero =>
  intro j hj _
  have h:ASafe Tryz.prog 22 β0 w0 (Ay β0 w0 [] (Tx (CU (FS j)) 0) []) Tryz.f22.ntmps [] (KO off n m xs P (jC j) (((0:Nat):Int)-1) [false]) :=
   As (AK N3 C0) AB Tryz.func22 (AM2 ..) ⟨rfl,decide_eq_true j.z.isLt,trivial⟩ (gK ..) hb (fun _ h=>by cases h)
  unfold Hj at hj
  rw [Tw,hj,Nat.pow_zero,Nat.div_one] at h
  exact Ab [false] h
 | succ c ih =>
  intro j hj hc
  have hi:((c+1:Nat):Int)-1=(c:Int):=by omega
  rw [hi]
  have hlt:∀ d∈AA xs off n,0≤d∧d<18446744073709551616:=Cp hall
  have hq:Int.tdiv (c:Int) 64=((c / 64:Nat):Int):=by rw [Int.tdiv_eq_ediv_of_nonneg (by omega)];rfl
  have hr:Int.tmod (c:Int) 64=((c % 64:Nat):Int):=by rw [Int.tmod_eq_emod_of_nonneg (by omega)];rfl
  have hw:wI (Int.tdiv (c:Int) 64)=((c / 64:Nat):Int):=by rw [hq];exact Am (by omega)
  have hjn:c / 64<n:=by omega
  have hv:B6 xs off c=(AA xs off n).getD (c / 64) 0:=by
   unfold B6
   rw [hw,Int.toNat_natCast,Nat.mul_one]
   exact (G8 hjn).symm
  have hvb:0≤B6 xs off c∧B6 xs off c<18446744073709551616:=by
   rw [hv,List.getD_eq_getElem?_getD]
   cases h:(AA xs off n)[c / 64]? with
   | none=>simp
   | some d=>exact hlt d (List.mem_of_getElem? h)
  have hbit:IB (B6 xs off c) (Int.tmod c 64)=((AF (AA xs off n) / 2^c % 2:Nat):Int):=by
   obtain ⟨V,hV⟩:=Int.eq_ofNat_of_zero_le hvb.1
   rw [hr,← TL _ c hlt,← hv,hV,Int.toNat_natCast]
   exact TJ V _ (by omega) (by omega)
  have hnext:wI ((c:Int)-1)=(c:Int)-1:=Am (by omega)
  have hconds:∀ Bs r,decide (IB (B6 xs off c) (Int.tmod c 64)=0)=Bs→AQ r→AQ (P_ off n xs c Bs r):=by
   intro Bs r hbt hr'
   refine ⟨by simp,rfl,?_,?_,?_,?_,hbt,hr'⟩
   ·rw [hw];simp;omega
   ·rw [hw];simp;omega
   ·simp
   ·simp only [decide_eq_true_eq];rw [hr];exact ⟨by omega,hvb.1⟩
  have hdiv:AF (AA xs off n) / 2^c=2*(AF (AA xs off n) / 2^(c+1))+AF (AA xs off n) / 2^c % 2:=by
   rw [Nat.pow_succ,← Nat.div_div_eq_div_mul];omega
  unfold Hj at hj
  have hoj:Rg.On C1.b (CU j):=by rw [hj];exact GT C1 hP _
  have htw:CU (BV (FS j))=BH (2*(AF (AA xs off n) / 2^(c+1))) P:=by
   rw [Tw,P1 C1 hoj,hj,← N1 C1 hP,Nat.two_mul]
  rcases Nat.mod_two_eq_zero_or_one (AF (AA xs off n) / 2^c) with h0 | h1
  ·refine Ab [true,true] (Ae (AK N3 C0) AB (AM0 ..) (hconds true [] (by rw [hbit,h0];rfl) trivial) (gK ..) hb (fun _ h=>by cases h) fun _=>?_)
   rw [hnext]
   refine ih _ ?_ (by omega)
   unfold Hj
   rw [htw,hdiv,h0];rfl
  ·refine Ab [true,false] (Ae (AK N3 C0) AB (AM1 ..) (hconds false _ (by rw [hbit,h1];rfl) ⟨decide_eq_true (BV (FS j)).z.isLt,decide_eq_true (MF P),decide_eq_true (Wr P),trivial⟩) (gK ..) hb (fun _ h=>by cases h) fun _=>?_)
   rw [hnext]
   refine ih _ ?_ (by omega)
   unfold Hj Wx
   rw [Tw (BV (FS j)),Tv C1 (by rw [htw];exact GT C1 hP _),htw,hdiv,h1]
   cases P with
   | inf=>cases hI
   | pt a b =>
    show add _ (.pt (tf a.val) (tf b.val))=_
    rw [B_,B_];rfl
end
noncomputable def Es (N:Nat) (P:Pt FP):Pt FP:=if CA P=true then BH N P else .pt 0 0
noncomputable def FT (P:Pt FP):Int:=if CA P=true then 0 else 120
theorem AM4 (P:Pt FP):Wy P=P:=MG P
theorem zY {β:Env} {Q:Pt FP} {e:Int} {u:Value} (h:AP β (Tx Q e) u):AP β (MK Q e) u:=Cy (fun _ q=>q) (fun _ q=>Df rfl q) h
theorem AM5 {off n m:Nat} {xs:List Int} (hall:∀ d∈xs,0≤d∧d<18446744073709551616) (hlen:off+n≤xs.length) (hn:n≤1125899906842624) (x y:Nat) (i:Bool) :
  Ad Tryz.prog 22 (I0 x y i off n m) (Az xs) 1 [] (MK (Es (AF (AA xs off n)) (Ah x y i)) (FT (Ah x y i))) []:=by
 have e1:=AMx x y i off n m xs
 have e2:=AMy x y i off n m xs
 have e3:=AMz x y i off n m xs
 rw [AM4] at e1 e2 e3
 generalize Ah x y i=P at *
 cases ho:CA P with
 | false =>
  unfold Es FT
  rw [if_neg (by rw [ho];exact Bool.false_ne_true),if_neg (by rw [ho];exact Bool.false_ne_true)]
  refine BU (Av (path:=[true]) Tryz.func22 (by kernel_rfl) (by kernel_rfl) fun β0 w0 hb =>
   As (AK N3 C0) AB Tryz.func22 e2 ⟨by rw [ho];rfl,trivial⟩ (AL (by kernel_rfl)) hb (fun _ h=>by cases h)) fun β u hu=>?_
  exact Cy (fun _ q=>(G' (x:=0) (y:=0) (i:=false) (by kernel_rfl) q).1) (fun _ q=>Df rfl q) hu
 | true =>
  have hP:=(P6 P).1 ho
  unfold Es FT
  rw [if_pos ho,if_pos ho]
  cases hI:BL P with
  | true =>
   have hp:P=.inf:=by cases P with | inf=>rfl | pt a b=>cases hI
   have hs:BH (AF (AA xs off n)) P=P:=by rw [hp,Py]
   rw [hs]
   exact BU (Av (path:=[false,true]) Tryz.func22 (by kernel_rfl) (by kernel_rfl) fun β0 w0 hb =>
    As (AK N3 C0) AB Tryz.func22 e3 ⟨by rw [ho];rfl,hI,trivial⟩ (AL (by kernel_rfl)) hb (fun _ h=>by cases h)) fun β u hu=>zY hu
  | false =>
   refine BU (Av (path:=[false,false]) Tryz.func22 (by kernel_rfl) (by kernel_rfl) fun β0 w0 hb=>?_) fun β u hu=>zY hu
   refine Ae (AK N3 C0) AB e1 ⟨by rw [ho];rfl,hI,?_,trivial⟩ (AL (by kernel_rfl)) hb (fun _ h=>by cases h) fun _=>?_
   ·simp only [AJ,Bool.and_eq_true,decide_eq_true_eq];omega
   ·have e4:wI (wI (64*(n:Int))-1)=((64*n:Nat):Int)-1:=by
     rw [Am (z:=64*(n:Int)) (by omega),Am (by omega)];omega
    rw [e4]
    refine Wv zX (AM3 hall hlen hn hP hI hb (64*n) ⟨0,0,0⟩ ?_ (Nat.le_refl _))
    unfold Hj
    have hl:=G7 (AA xs off n) (Cp hall)
    have hl2:AF (AA xs off n)<2^(64*n):=by
     unfold AA at hl ⊢
     rwa [List.length_take,List.length_drop,Nat.min_eq_left (by omega)] at hl
    rw [GU rfl,Nat.div_eq_of_lt hl2];rfl
def Wz (g:List Int→Pt FP→AV):ASpec:=fun args H fr path =>
 match args with
 | [S,.val true a]=>match By S with
  | some (k,off,n)=>match P3 a,AG H k with
   | some (x,y,i),some ⟨_,cs,_⟩=>match Ao .u64 cs with
    | some xs=>some (A5 [k] 1 fr 0 [] (g (AA xs off n) (Ah x y i)) [] [(Nat.ble (off+n) xs.length,true),(Nat.ble n 1125899906842624,true)] path)
    | none=>none
   | _,_=>none
  | none=>none
 | _=>none
theorem zZ {f:FuncId} {fn:Func} {g:List Int→Pt FP→AV} (hfn:Tryz.prog.funcs[f]? = some fn) (hb:fn.body.isSome=true) (hname:(fn.name=="runtime.NumGoroutine")=false) (hk:∀ l P,Cu 1 0 [] (g l P) []=true)
  (h:∀ (off n m:Nat) (xs:List Int) (x y:Nat) (i:Bool),(∀ d∈xs,0≤d∧d<18446744073709551616)→off+n≤xs.length→n≤1125899906842624→Ad Tryz.prog f (I0 x y i off n m) (Az xs) 1 [] (g (AA xs off n) (Ah x y i)) []):A6 Tryz.prog f (Wz g):=by
 refine CS hfn hb hname fun args H fr path r hs=>?_
 unfold Wz at hs
 split at hs
 case h_2=>cases hs
 rename_i S a
 split at hs
 case h_2=>cases hs
 rename_i k off n hS
 split at hs
 case h_2=>cases hs
 rename_i x y i ty cs o hx hk'
 split at hs
 case h_2=>cases hs
 rename_i xs hxs
 injection hs with hs
 refine ⟨[k],1,0,[],_,_,_,path,hs.symm,fun β us w ha hg hc=>?_⟩
 obtain ⟨u1,us1,r1,⟨u2,us2,r2,ha,rfl⟩,rfl⟩:=ha
 obtain ⟨m,r1⟩:=DF hS r1
 obtain ⟨g1,g2,g3⟩:=HU hg hk' hxs
 exact ⟨I0 x y i off n m,Az xs,h off n m xs x y i g1 (Nat.le_of_ble_eq_true hc.1) (Nat.le_of_ble_eq_true hc.2.1),hk _ _,⟨u1,_,BS (by omega) rfl r1,⟨u2,us2,(G' hx r2).1,ha,rfl⟩,rfl⟩,g2,g3⟩
noncomputable def SG4:List (FuncId×ASpec):=(22,Du (Wz fun l P=>MK (Es (AF l) P) (FT P)))::SG3
theorem P':AX Tryz.prog SG4:=⟨EM (zZ Tryz.func22 (by kernel_rfl) (by kernel_rfl) (fun _ _=>by kernel_rfl) fun _ _ _ _ x y i hx hl hn=>AM5 hx hl hn x y i),N3⟩
def gL:List AV→Option AV
 | [.val false [.n .u64 i]]=>some (.val true [.n .u64 i,.n .u64 0,.n .u64 0,.n .u64 0,.n .u64 0,.n .u64 0])
 | _=>none
theorem AM6 (i:Int):AR Tryz.prog (AH SG4 KG) Tryz.f188 [.val false [.n .u64 i]] [] 100=some ([],.val true [.n .u64 i,.n .u64 0,.n .u64 0,.n .u64 0,.n .u64 0,.n .u64 0]):=by kernel_rfl
theorem AM7:∀ args v,gL args=some v→AU Tryz.prog 188 args v:=by
 intro args v hs
 unfold gL at hs
 split at hs
 case h_2=>cases hs
 rename_i i
 injection hs with hs;subst hs
 exact AW (AK P' C0) AB Tryz.func188 (AM6 i) trivial rfl
theorem AM8:AR Tryz.prog (AH SG4 KG) Tryz.f241 [] [] 100=some ([],.val true [.n .u64 4,.n .u64 0,.n .u64 0,.n .u64 0,.n .u64 0,.n .u64 0]):=by kernel_rfl
theorem AM9:AU Tryz.prog 241 [] (AY 4):=C7 (AW (AK P' C0) AB Tryz.func241 AM8 trivial rfl) fun u hu=>TH (by kernel_rfl) hu
theorem AM_:AR Tryz.prog (AH SG4 KG) Tryz.f119 [] [] 100=some ([],.val true gC):=by kernel_rfl
theorem AM':AU Tryz.prog 119 [] (HA G1B):=by
 rw [← zL]
 exact KM (AW (AK P' C0) AB Tryz.func119 AM_ trivial rfl) (by kernel_rfl)
theorem ANA (x y:Nat) (i:Bool):AR Tryz.prog (AH SG4 KG) Tryz.f185 [Ba x y i] [true] 300=some ([(i,true)],.val true (Er true)):=by kernel_rfl
theorem ANB (x y:Nat) (i:Bool):AR Tryz.prog (AH SG4 KG) Tryz.f185 [Ba x y i] [false] 300=some ([(i,false)],.val true [.num 6 (x % pN),.num 6 (y % pN),.b false]):=by kernel_rfl
theorem ANC (x y:Nat) (i:Bool):AU Tryz.prog 185 [Ba x y i] (HA (Ah x y i)):=by
 cases i with
 | true=>exact KM (AW (AK P' C0) AB Tryz.func185 (ANA x y true) ⟨rfl,trivial⟩ rfl) (by kernel_rfl)
 | false=>exact KM (AW (AK P' C0) AB Tryz.func185 (ANB x y false) ⟨rfl,trivial⟩ rfl) (by kernel_rfl)
noncomputable def SR0:List (FuncId×ASpec):=(188,Aj gL)::(241,Aj fun args=>match args with | []=>some (AY 4) | _=>none)::(119,Aj fun args=>match args with | []=>some (HA G1B) | _=>none)::(185,Aj (MH HA))::SG4
theorem gM:AX Tryz.prog SR0:=⟨Ak Tryz.func188 (by kernel_rfl) (by kernel_rfl) AM7,Ak Tryz.func241 (by kernel_rfl) (by kernel_rfl) (Nj AM9 fun u h=>h),Ak Tryz.func119 (by kernel_rfl) (by kernel_rfl) (Nj AM' fun u h=>h),Ak Tryz.func185 (by kernel_rfl) (by kernel_rfl) (P4 ANC),P'⟩
theorem AND (x y:Nat) (i:Bool):AR Tryz.prog (AH SR0 KG) Tryz.f184 [Ba x y i] [true] 300=some ([(i,true)],.val false [.b true]):=by kernel_rfl
theorem ANE (x y:Nat) (i:Bool):AR Tryz.prog (AH SR0 KG) Tryz.f184 [Ba x y i] [false] 300=some ([(i,false)],BB (decide (Ag y y=DL (Ag (Ag x x) x) 4))):=by kernel_rfl
theorem ANF (x y:Nat) (i:Bool):AU Tryz.prog 184 [Ba x y i] (BB (CA (Ah x y i))):=by
 cases i with
 | true=>exact C7 (AW (AK gM C0) AB Tryz.func184 (AND x y true) ⟨rfl,trivial⟩ rfl) fun u hu=>It rfl hu
 | false=>rw [← gE];exact AW (AK gM C0) AB Tryz.func184 (ANE x y false) ⟨rfl,trivial⟩ rfl
section
variable (x y:Nat) (i:Bool) (x' y':Nat) (i':Bool)
end
noncomputable def SR1:List (FuncId×ASpec):=(184,Aj (MH fun P=>BB (CA P)))::SR0
theorem z4:AX Tryz.prog SR1:=⟨Ak Tryz.func184 (by kernel_rfl) (by kernel_rfl) (P4 ANF),gM⟩
theorem gN:tf 2=1+1:=by rw [← En,← F']
theorem z7:tf 3=1+1+1:=by rw [← En,← F',← F']
theorem gO:tf 4=1+1+(1+1):=by rw [← gN,← F']
theorem z8:tf 8=1+1+(1+1)+(1+1+(1+1)):=by rw [← gO,← F']
section
variable (x y:Nat) (i:Bool) (x' y':Nat) (i':Bool)
end
def sD (x y:Nat):Nat:=Ag 4 (Ag x (Ag y y))
def sE (x:Nat):Nat:=Ag 3 (Ag x x)
def sX (x y:Nat):Nat:=DW (Ag (sE x) (sE x)) (DL (sD x y) (sD x y))
def sY (x y:Nat):Nat:=DW (Ag (sE x) (DW (sD x y) (sX x y))) (Ag 8 (Ag (Ag y y) (Ag y y)))
theorem ANG (x y z:Nat):AR Tryz.prog (AH SR1 KG) Tryz.f186 [C9 x y z] [] 500=some ([],C9 (sX x y) (sY x y) (Ag 2 (Ag y z))):=by kernel_rfl
theorem z9 (x y:Nat):tf (sD x y)=jD (tf x) (tf y):=by unfold sD jD;rw [Bu,Bu,Bu,gO];grind
theorem AAA (x:Nat):tf (sE x)=jE (tf x):=by unfold sE jE;rw [Bu,Bu,z7];grind
theorem AAB (x y:Nat):tf (sX x y)=jX (tf x) (tf y):=by unfold sX jX;rw [GA,Bu,HY,z9,AAA]
theorem ANH (y:Nat):tf (Ag 8 (Ag (Ag y y) (Ag y y)))=Pz (tf y):=by unfold Pz Wp jC2;rw [Bu,Bu,Bu,z8];grind
theorem ANI (x y z:Nat):AU Tryz.prog 186 [C9 x y z] (Hi (BV (BW x y z))):=by
 rw [← MI (j:=BV (BW x y z)) (x:=sX x y) (y:=sY x y) (z:=Ag 2 (Ag y z)) (GB _ _) (GB _ _) (J6 _ _) (AAB x y) (by unfold sY;rw [GA,Bu,GA,AAB,z9,AAA,ANH];rfl)
  (by rw [Bu,Bu,gN];show _=tf y*tf z+tf y*tf z;grind)]
 exact AW (AK z4 C0) AB Tryz.func186 (ANG x y z) trivial rfl
noncomputable def SR2:List (FuncId×ASpec):=(186,Aj (Wt fun j=>Hi (BV j)))::SR1
theorem Ty:AX Tryz.prog SR2:=⟨Ak Tryz.func186 (by kernel_rfl) (by kernel_rfl) (zS ANI),z4⟩
section
variable (x y z a b:Nat) (i:Bool)
theorem ANJ:AR Tryz.prog (AH SR2 KG) Tryz.f187 [C9 x y z,Ba a b i] [true] 500=some ([(decide (z=0),true)],.val true (.num 6 a::.num 6 b::fO)):=by kernel_rfl
theorem ANK:AR Tryz.prog (AH SR2 KG) Tryz.f187 [C9 x y z,Ba a b i] [false,true,true] 500=some ([(decide (z=0),false),(decide (nH x z a=0),true),(decide (nR y z b=0),true)],Hi (BV (BW x y z))):=by kernel_rfl
theorem ANL:AR Tryz.prog (AH SR2 KG) Tryz.f187 [C9 x y z,Ba a b i] [false,true,false] 500=some ([(decide (z=0),false),(decide (nH x z a=0),true),(decide (nR y z b=0),false)],.val true (List.replicate 18 (.n .u64 0))):=by kernel_rfl
theorem ANM:AR Tryz.prog (AH SR2 KG) Tryz.f187 [C9 x y z,Ba a b i] [false,false] 500=some ([(decide (z=0),false),(decide (nH x z a=0),false)],C9 (KN x (nH x z a) (nR y z b)) (P8 x y (nH x z a) (nR y z b)) (Ag z (nH x z a))):=by kernel_rfl
end
theorem ANN {x y z a b:Nat} {i:Bool} (hz:z<pN) (ha:a<pN) (hb:b<pN):AU Tryz.prog 187 [C9 x y z,Ba a b i] (Hi (FA (BW x y z) (tf a) (tf b))):=by
 have eh:=zT x y z a
 have er:=zU x y z b
 have zh:=Iz (n:=nH x z a) (GB _ _)
 have zr:=Iz (n:=nR y z b) (GB _ _)
 rw [eh] at zh
 rw [er] at zr
 unfold FA
 by_cases h0:z=0
 ·rw [if_pos (show (BW x y z).z=0 from (Iz hz).1 h0),← MI (j:=⟨tf a,tf b,1⟩) ha hb (show 1<pN by decide) rfl rfl En]
  exact Wu (AW (AK Ty C0) AB Tryz.func187 (ANJ x y z a b i) ⟨decide_eq_true h0,trivial⟩ rfl) rfl
 ·rw [if_neg (show ¬ (BW x y z).z=0 from fun e=>h0 ((Iz hz).2 e))]
  by_cases hh:nH x z a=0
  ·rw [if_pos (zh.1 hh)]
   by_cases hr:nR y z b=0
   ·rw [if_pos (zr.1 hr)]
    exact AW (AK Ty C0) AB Tryz.func187 (ANK x y z a b i) ⟨decide_eq_false h0,decide_eq_true hh,decide_eq_true hr,trivial⟩ rfl
   ·rw [if_neg (fun e=>hr (zr.2 e)),← MI (j:=⟨0,0,0⟩) CQ CQ CQ tf_zero tf_zero tf_zero]
    exact Wu (AW (AK Ty C0) AB Tryz.func187 (ANL x y z a b i) ⟨decide_eq_false h0,decide_eq_true hh,decide_eq_false hr,trivial⟩ rfl) (by kernel_rfl)
  ·rw [if_neg (fun e=>hh (zh.2 e)),← MI (j:=⟨pX (BW x y z).x (pH (BW x y z) (tf a)) (pR (BW x y z) (tf b)),pY (BW x y z).x (BW x y z).y (pH (BW x y z) (tf a)) (pR (BW x y z) (tf b)),(BW x y z).z*pH (BW x y z) (tf a)⟩)
    (x:=KN x (nH x z a) (nR y z b)) (y:=P8 x y (nH x z a) (nR y z b)) (z:=Ag z (nH x z a)) (GB _ _) (GB _ _) (J6 _ _) ?_ ?_ ?_]
   ·exact AW (AK Ty C0) AB Tryz.func187 (ANM x y z a b i) ⟨decide_eq_false h0,decide_eq_false hh,trivial⟩ rfl
   ·unfold KN pX;simp only [GA,Bu,HY,eh,er];rfl
   ·unfold P8 KN pY pX;simp only [GA,Bu,HY,eh,er];rfl
   ·rw [Bu,eh];rfl
theorem ANO {f:FuncId} (h:∀ (x y z a b:Nat) (i:Bool),z<pN→a<pN→b<pN→AU Tryz.prog f [C9 x y z,Ba a b i] (Hi (FA (BW x y z) (tf a) (tf b)))):∀ args c v,P9 args=some (c,v)→AQ c→AU Tryz.prog f args v:=by
 intro args c v hs hc us w ha
 unfold P9 at hs
 split at hs
 case h_2=>cases hs
 rename_i a b
 split at hs
 case h_2=>cases hs
 rename_i x y z p q i hx hy
 injection hs with hs;injection hs with h1 h2;subst h1;subst h2
 obtain ⟨u1,us1,r1,⟨u2,us2,r2,ha,rfl⟩,rfl⟩:=ha
 exact h x y z p q i (of_decide_eq_true hc.1) (of_decide_eq_true hc.2.1) (of_decide_eq_true hc.2.2.1) _ w ⟨u1,_,P7 hx r1,⟨u2,_,(G' hy r2).1,ha,rfl⟩,rfl⟩
noncomputable def SR3:List (FuncId×ASpec):=(187,EE P9)::SR2
theorem ML:AX Tryz.prog SR3:=⟨El Tryz.func187 (by kernel_rfl) (by kernel_rfl) (ANO fun _ _ _ _ _ _=>ANN),Ty⟩
noncomputable def SN:List (FuncId×ASpec):=SR3
theorem ANP:AX Tryz.prog SN:=ML
def ANQ:List AV→Option AV
 | []=>some (.val false [.b true])
 | _=>none
noncomputable def SA12:List (FuncId×ASpec):=SN
theorem ANR:AX Tryz.prog SA12:=ANP
noncomputable def ANS:List Item:=Be (AS Tryz.prog (AH SR3 KG) (some 0) 500 1 none (Af Tryz.f118 [AI 0 0 0 0,Ba 0 0 false] (Az []) 1 [false,false]))
noncomputable def qmT (off n m:Nat) (i:Int):List AV:=.val false [.sl 0 off n m]::.any::.any::.val false [.p 1 0]::.val false [.p 2 0]::.val false [.n .i64 0]::.any::.val false [.p 3 0]::.val false [.p 4 0]::.val false [.v (.int .i64 i)]::List.replicate (Tryz.f118.ntmps-10) .any
noncomputable def qmH (xs:List Int) (x y:Nat) (b:Bool) (P:Pt FP):Heap:=[(0,some (Ai [.seq .u64 xs])),(1,some ⟨32,[.num 6 x,.num 6 y,.v (.bool b)],false⟩),(2,some ⟨32,Er false,false⟩),(3,some ⟨32,[.num 6 (Cz P),.num 6 (BT P),.v (.bool (BL P))],false⟩)]
noncomputable def KP (x y:Nat) (b:Bool) (off n m:Nat) (xs:List Int) (P:Pt FP) (out:List Ch) (i:Int) (path:List Bool):ASt:=⟨ANS,⟨qmT off n m i,List.append (qmH xs x y b P) [(4,some ⟨189,out,false⟩)],5,path⟩⟩
theorem ANV (x y:Nat) (i:Bool) (off n m:Nat) (xs:List Int):AS Tryz.prog (AH SR3 KG) (some 0) 500 1 (some ([0,3,4,5,7,8,9],[0,1,2,3,4],5)) (Af Tryz.f118 (I0 x y i off n m) (Az xs) 1 [false,false]) =
 some ([(!CA (Ah x y i),false),(i,false),(AJ .i64 n,true)],[],KP x y i off n m xs (Ah x y i) Ww (wI (wI (64*(n:Int))-1)) []):=by kernel_rfl
theorem ANW (x y:Nat) (i:Bool) (off n m:Nat) (xs:List Int):AM Tryz.prog (AH SR3 KG) Tryz.f118 500 1 [] (Af Tryz.f118 (I0 x y i off n m) (Az xs) 1 [true]) =
 some ([(!CA (Ah x y i),true)],[],.tup [(true,Er false),(false,[.n .i64 120])],[]):=by kernel_rfl
theorem ANX (x y:Nat) (i:Bool) (off n m:Nat) (xs:List Int):AM Tryz.prog (AH SR3 KG) Tryz.f118 500 1 [] (Af Tryz.f118 (I0 x y i off n m) (Az xs) 1 [false,true]) =
 some ([(!CA (Ah x y i),false),(i,true)],[],.tup [(true,Er true),(false,[.n .i64 0])],[]):=by kernel_rfl
def QA (off n:Nat) (xs:List Int) (i:Int) (Bs:Bool) (r:List (Bool×Bool)):List (Bool×Bool):=(decide (0≤i),true)::(true,true)::(decide (0≤wI (Int.tdiv i 64)∧wI (Int.tdiv i 64)<n),true) ::
 (decide (off+(wI (Int.tdiv i 64)).toNat*1<xs.length),true)::(decide (0≤i∧(0:Int)<64),true)::(decide (0≤AO false .u64 (Int.tmod i 64)∧0≤B6 xs off i),true)::(decide (IG xs off i=1),Bs)::r
section
variable (x y:Nat) (b:Bool) (off n m:Nat) (xs:List Int) (P:Pt FP) (j:J FP) (i:Int)
theorem ANY:AS Tryz.prog (AH SR3 KG) (some 0) 500 1 (some ([0,3,4,5,7,8,9],[0,1,2,3,4],5)) (KP x y b off n m xs P (jC j) i [true,false]) =
 some (QA off n xs i false [],[],KP x y b off n m xs P (jC (BV (FS j))) (wI (i-1)) []):=by kernel_rfl
theorem ANZ:AS Tryz.prog (AH SR3 KG) (some 0) 500 1 (some ([0,3,4,5,7,8,9],[0,1,2,3,4],5)) (KP x y b off n m xs P (jC j) i [true,true]) =
 some (QA off n xs i true [(decide ((BV (FS j)).z.val<pN),true),(decide (Cz P<pN),true),(decide (BT P<pN),true)],[],KP x y b off n m xs P (jC (Wx j P)) (wI (i-1)) []):=by kernel_rfl
theorem ANa:AM Tryz.prog (AH SR3 KG) Tryz.f118 500 1 [] (KP x y b off n m xs P (jC j) i [false,true]) =
 some ([(decide (0≤i),false),(decide (j.z.val=0),true)],[],.tup [(true,Er true),(false,[.n .i64 0])],[]):=by kernel_rfl
theorem ANb:AM Tryz.prog (AH SR3 KG) Tryz.f118 500 1 [] (KP x y b off n m xs P (jC j) i [false,false]) =
 some ([(decide (0≤i),false),(decide (j.z.val=0),false)],[],.tup [(true,[.num 6 (Ag j.x.val (Ag (BM j.z.val) (BM j.z.val))),.num 6 (Ag j.y.val (Ag (Ag (BM j.z.val) (BM j.z.val)) (BM j.z.val))),.b false]),(false,[.n .i64 0])],[]):=by kernel_rfl
end
theorem W0 (x y:Nat) (b:Bool) (off n m:Nat) (xs:List Int) (P:Pt FP) (j:J FP) (i:Int) (p:List Bool):B4 Tryz.f118.ntmps (KP x y b off n m xs P (jC j) i p).s:=AL (by kernel_rfl)
def gP (Q:Pt FP):AV:=match Q with
 | .inf=>.tup [(true,Er true),(false,[.n .i64 0])]
 | .pt a b=>.tup [(true,[.num 6 a.val,.num 6 b.val,.b false]),(false,[.n .i64 0])]
section
variable {off n m:Nat} {xs:List Int} (hall:∀ d∈xs,0≤d∧d<18446744073709551616) (hlen:off+n≤xs.length) (hn:n≤1125899906842624) {x y:Nat} {b:Bool} {P:Pt FP} (hP:Rg.On C1.b P) (hI:BL P=false) {β0:Env} {w0:World} (hb:∀ b,1≤b→β0 b=none)
include hall hlen hn hb hP hI
theorem ANc:∀ (c:Nat) (j:J FP),Hj P (AF (AA xs off n)) c j→c≤64*n→ASafe Tryz.prog 118 β0 w0 (Ay β0 w0 [] (gP (BH (AF (AA xs off n)) P)) []) Tryz.f118.ntmps [] (KP x y b off n m xs P (jC j) ((c:Int)-1) []):=by
 intro c
 induction c with
 | zero =>
  intro j hj _
  unfold Hj at hj
  rw [Nat.pow_zero,Nat.div_one] at hj
  rw [← hj]
  by_cases h0:j.z.val=0
  ·have hz:j.z=0:=Ws.1 h0
   rw [GU hz]
   exact Ab [false,true] (As (AK ML C0) AB Tryz.func118 (ANa ..) ⟨rfl,decide_eq_true h0,trivial⟩ (W0 ..) hb (fun _ h=>by cases h))
  ·have hz:j.z≠0:=fun e=>h0 (Ws.2 e)
   rw [IL hz]
   have e:gP (.pt (j.x*(FD.inv j.z*FD.inv j.z)) (j.y*((FD.inv j.z*FD.inv j.z)*FD.inv j.z)))=.tup [(true,[.num 6 (Ag j.x.val (Ag (BM j.z.val) (BM j.z.val))),.num 6 (Ag j.y.val (Ag (Ag (BM j.z.val) (BM j.z.val)) (BM j.z.val))),.b false]),(false,[.n .i64 0])]:=by
    have ei:tf (BM j.z.val)=FD.inv j.z:=by rw [zM j.z.isLt,B_];rfl
    have e1:Ag j.x.val (Ag (BM j.z.val) (BM j.z.val))=(j.x*(FD.inv j.z*FD.inv j.z):FP).val:=J' (J6 _ _) (Fin.isLt _) (by rw [Bu,Bu,ei,B_,B_])
    have e2:Ag j.y.val (Ag (Ag (BM j.z.val) (BM j.z.val)) (BM j.z.val))=(j.y*((FD.inv j.z*FD.inv j.z)*FD.inv j.z):FP).val:=J' (J6 _ _) (Fin.isLt _) (by rw [Bu,Bu,Bu,ei,B_,B_])
    rw [e1,e2];rfl
   rw [e]
   exact Ab [false,false] (As (AK ML C0) AB Tryz.func118 (ANb ..) ⟨rfl,decide_eq_false h0,trivial⟩ (W0 ..) hb (fun _ h=>by cases h))
 | succ c ih =>
  intro j hj hc
  have hi:((c+1:Nat):Int)-1=(c:Int):=by omega
  rw [hi]
  have hlt:∀ d∈AA xs off n,0≤d∧d<18446744073709551616:=Cp hall
  have hq:Int.tdiv (c:Int) 64=((c / 64:Nat):Int):=by rw [Int.tdiv_eq_ediv_of_nonneg (by omega)];rfl
  have hr:Int.tmod (c:Int) 64=((c % 64:Nat):Int):=by rw [Int.tmod_eq_emod_of_nonneg (by omega)];rfl
  have hw:wI (Int.tdiv (c:Int) 64)=((c / 64:Nat):Int):=by rw [hq];exact Am (by omega)
  have hjn:c / 64<n:=by omega
  have hv:B6 xs off c=(AA xs off n).getD (c / 64) 0:=by
   unfold B6
   rw [hw,Int.toNat_natCast,Nat.mul_one]
   exact (G8 hjn).symm
  have hvb:0≤B6 xs off c∧B6 xs off c<18446744073709551616:=by
   rw [hv,List.getD_eq_getElem?_getD]
   cases h:(AA xs off n)[c / 64]? with
   | none=>simp
   | some d=>exact hlt d (List.mem_of_getElem? h)
  obtain ⟨hq1,hq2⟩:=Pk xs off c
  have hbit:IG xs off c=((AF (AA xs off n) / 2^c % 2:Nat):Int):=by
   rw [hq1]
   obtain ⟨V,hV⟩:=Int.eq_ofNat_of_zero_le hvb.1
   rw [hr,← TL _ c hlt,← hv,hV,Int.toNat_natCast]
   exact TJ V _ (by omega) (by omega)
  have hnext:wI ((c:Int)-1)=(c:Int)-1:=Am (by omega)
  have hconds:∀ Bs r,decide (IG xs off c=1)=Bs→AQ r→AQ (QA off n xs c Bs r):=by
   intro Bs r hbt hr'
   refine ⟨by simp,rfl,?_,?_,?_,?_,hbt,hr'⟩
   ·rw [hw];simp;omega
   ·rw [hw];simp;omega
   ·simp
   ·simp only [decide_eq_true_eq];rw [hq2,hr];exact ⟨by omega,hvb.1⟩
  have hdiv:AF (AA xs off n) / 2^c=2*(AF (AA xs off n) / 2^(c+1))+AF (AA xs off n) / 2^c % 2:=by
   rw [Nat.pow_succ,← Nat.div_div_eq_div_mul];omega
  unfold Hj at hj
  have hoj:Rg.On C1.b (CU j):=by rw [hj];exact GT C1 hP _
  have htw:CU (BV (FS j))=BH (2*(AF (AA xs off n) / 2^(c+1))) P:=by
   rw [Tw,P1 C1 hoj,hj,← N1 C1 hP,Nat.two_mul]
  rcases Nat.mod_two_eq_zero_or_one (AF (AA xs off n) / 2^c) with h0 | h1
  ·refine Ab [true,false] (Ae (AK ML C0) AB (ANY ..) (hconds false [] (by rw [hbit,h0];rfl) trivial) (W0 ..) hb (fun _ h=>by cases h) fun _=>?_)
   rw [hnext]
   refine ih _ ?_ (by omega)
   unfold Hj
   rw [htw,hdiv,h0];rfl
  ·refine Ab [true,true] (Ae (AK ML C0) AB (ANZ ..) (hconds true _ (by rw [hbit,h1];rfl) ⟨decide_eq_true (BV (FS j)).z.isLt,decide_eq_true (MF P),decide_eq_true (Wr P),trivial⟩) (W0 ..) hb (fun _ h=>by cases h) fun _=>?_)
   rw [hnext]
   refine ih _ ?_ (by omega)
   unfold Hj Wx
   rw [Tw (BV (FS j)),Tv C1 (by rw [htw];exact GT C1 hP _),htw,hdiv,h1]
   cases P with
   | inf=>cases hI
   | pt a b =>
    show add _ (.pt (tf a.val) (tf b.val))=_
    rw [B_,B_];rfl
end
theorem AAC {β:Env} {Q:Pt FP} {u:Value} (h:AP β (gP Q) u):AP β (MK Q 0) u:=by
 cases Q with
 | inf=>exact Cy (fun _ q=>(G' (x:=0) (y:=0) (i:=true) (by kernel_rfl) q).1) (fun _ q=>Df rfl q) h
 | pt a b=>exact Cy (fun _ q=>(G' (x:=a.val) (y:=b.val) (i:=false) rfl q).1) (fun _ q=>Df rfl q) h
theorem ANd {off n m:Nat} {xs:List Int} (hall:∀ d∈xs,0≤d∧d<18446744073709551616) (hlen:off+n≤xs.length) (hn:n≤1125899906842624) (x y:Nat) (i:Bool) :
  Ad Tryz.prog 118 (I0 x y i off n m) (Az xs) 1 [] (MK (Es (AF (AA xs off n)) (Ah x y i)) (FT (Ah x y i))) []:=by
 have e1:=ANV x y i off n m xs
 have e2:=ANW x y i off n m xs
 have e3:=ANX x y i off n m xs
 cases ho:CA (Ah x y i) with
 | false =>
  unfold Es FT
  rw [if_neg (by rw [ho];exact Bool.false_ne_true),if_neg (by rw [ho];exact Bool.false_ne_true)]
  refine BU (Av (path:=[true]) Tryz.func118 (by kernel_rfl) (by kernel_rfl) fun β0 w0 hb =>
   As (AK ML C0) AB Tryz.func118 e2 ⟨by rw [ho];rfl,trivial⟩ (AL (by kernel_rfl)) hb (fun _ h=>by cases h)) fun β u hu=>?_
  exact Cy (fun _ q=>(G' (x:=0) (y:=0) (i:=false) (by kernel_rfl) q).1) (fun _ q=>Df rfl q) hu
 | true =>
  have hP:=(P6 _).1 ho
  unfold Es FT
  rw [if_pos ho,if_pos ho]
  cases i with
  | true =>
   rw [show Ah x y true=.inf from rfl,Py]
   exact BU (Av (path:=[false,true]) Tryz.func118 (by kernel_rfl) (by kernel_rfl) fun β0 w0 hb =>
    As (AK ML C0) AB Tryz.func118 e3 ⟨by rw [ho];rfl,rfl,trivial⟩ (AL (by kernel_rfl)) hb (fun _ h=>by cases h)) fun β u hu=>AAC (Q:=.inf) hu
  | false =>
   refine BU (Av (path:=[false,false]) Tryz.func118 (by kernel_rfl) (by kernel_rfl) fun β0 w0 hb=>?_) fun β u hu=>AAC hu
   refine Ae (AK ML C0) AB e1 ⟨by rw [ho];rfl,rfl,?_,trivial⟩ (AL (by kernel_rfl)) hb (fun _ h=>by cases h) fun _=>?_
   ·simp only [AJ,Bool.and_eq_true,decide_eq_true_eq];omega
   ·have e4:wI (wI (64*(n:Int))-1)=((64*n:Nat):Int)-1:=by
     rw [Am (z:=64*(n:Int)) (by omega),Am (by omega)];omega
    rw [e4]
    refine Wv zX (ANc hall hlen hn hP rfl hb (64*n) ⟨0,0,0⟩ ?_ (Nat.le_refl _))
    unfold Hj
    have hl:=G7 (AA xs off n) (Cp hall)
    have hl2:AF (AA xs off n)<2^(64*n):=by
     unfold AA at hl ⊢
     rwa [List.length_take,List.length_drop,Nat.min_eq_left (by omega)] at hl
    rw [GU rfl,Nat.div_eq_of_lt hl2];rfl
noncomputable def SR4:List (FuncId×ASpec):=(118,Du (Wz fun l P=>MK (Es (AF l) P) (FT P)))::SA12
theorem ANe:AX Tryz.prog SR4:=⟨EM (zZ Tryz.func118 (by kernel_rfl) (by kernel_rfl) (fun _ _=>by kernel_rfl) fun _ _ _ _ x y i hx hl hn=>ANd hx hl hn x y i),ANR⟩
end Go.Proofs.YtjlcdlekmpjjnaaGreat
namespace Go.Proofs.YtjlcdlekmpjjnaaGreat
open Ex Num
set_option maxRecDepth 100000
set_option maxHeartbeats 4000000
noncomputable abbrev KR:Orc:=AH S22 K0
def N4 (ls ms:List Int):Heap:=[(0,some ⟨24,[.seq .u64 ls],false⟩),(1,some (Ai [.seq .u64 ms]))]
def W1 (n m N M:Nat):List AV:=[.val false [.sl 0 0 N M],.val false [.sl 1 0 n m],.val false [.v (.int .i64 (n:Int))]]
noncomputable def ANf:List Item:=Be (AS Tryz.prog KR (some 0) 100 2 none (Af Tryz.f212 (W1 0 0 0 0) (N4 [] []) 2 []))
noncomputable def tkT (n m N M:Nat):List AV:=.val false [.sl 0 0 N M]::.val false [.sl 1 0 n m]::.val false [.v (.int .i64 n)]::List.replicate (Tryz.f212.ntmps-3) .any
noncomputable def KS (ls ms:List Int) (n m N M:Nat) (p:List Bool):ASt:=⟨ANf,⟨tkT n m N M,N4 ls ms,2,p⟩⟩
noncomputable def AAD:List Item:=Be (AS Tryz.prog KR (some 0) 200 2 none (KS [] [] 0 0 0 0 [true,true]))
noncomputable def Tz (n m N M:Nat) (q b i c:Ch):List AV:=.val false [.sl 0 0 N M]::.val false [.sl 1 0 n m]::.val false [.v (.int .i64 n)]::.any::.any::.any::.val false [q]::.any::.val false [b]::.val false [i]::.val false [c]::List.replicate (Tryz.f212.ntmps-11) .any
noncomputable def QB (ls ms:List Int) (n m N M:Nat) (q b i c:Int) (p:List Bool):ASt:=⟨AAD,⟨Tz n m N M (.v (.int .u64 q)) (.v (.int .u64 b)) (.v (.int .i64 i)) (.v (.int .u64 c)),N4 ls ms,2,p⟩⟩
noncomputable def W2 (ls ms:List Int) (n m N M:Nat) (q:Ch):ASt:=⟨AAD,⟨Tz n m N M q (.n .u64 0) (.n .i64 0) (.n .u64 0),N4 ls ms,2,[]⟩⟩
abbrev kA:Option (List Nat×List Nat×Nat):=some ([0,1,2],[0,1],2)
abbrev kB:Option (List Nat×List Nat×Nat):=some ([0,1,2,6,8,9,10],[0,1],2)
def W3 (x:Int):Int:=if 1 > x then 1 else x
def nI (n:Nat):Int:=wI ((n:Int)-1)
def KT (ms:List Int) (n:Nat):Int:=ms.getD (0+(nI n).toNat*1) 0
def MM (ls:List Int) (n:Nat):Int:=ls.getD (0+(n:Int).toNat*1) 0
def gQ (ls ms:List Int) (n:Nat):Int:=(((MM ls n).toNat*B9+(ls.getD (0+(nI n).toNat*1) 0).toNat) / (mW (KT ms n+1)).toNat:Nat)
section
variable (ls ms:List Int) (n m N M:Nat) (q b i c:Int)
def T3 (d:Bool) (r:List (Bool×Bool)):List (Bool×Bool):=(Nat.ble (0+N) ls.length,true)::(Nat.ble (0+n) ms.length,true)::(AJ .i64 N,true)::(AJ .i64 n,true)::(decide (0≤C6 (AF (AA ls 0 N)) (AF (AA ms 0 n))),d)::r
def W4 (d:Bool) (r:List (Bool×Bool)):List (Bool×Bool):=(decide (0≤nI n∧nI n<n),true)::(decide (0+(nI n).toNat*1<ms.length),true)::(decide (mW (KT ms n+1)=0),d)::(decide (0≤(n:Int)∧(n:Int)<N),true)::(decide (0+(n:Int).toNat*1<ls.length),true)::r
theorem ANh:AS Tryz.prog KR (some 0) 100 2 kA (Af Tryz.f212 (W1 n m N M) (N4 ls ms) 2 [])=some ([],[],KS ls ms n m N M []):=by kernel_rfl
theorem ANi:AS Tryz.prog KR (some 0) 200 2 kB (KS ls ms n m N M [true,true])=some (T3 ls ms n N true (W4 ls ms n N true []),[],W2 ls ms n m N M (.v (.int .u64 (W3 (MM ls n))))):=by kernel_rfl
theorem ANj:AS Tryz.prog KR (some 0) 200 2 kB (KS ls ms n m N M [true,false,true])=some (T3 ls ms n N true (W4 ls ms n N false [(decide (MM ls n<mW (KT ms n+1)),true),(decide (0≤(n:Int)∧(n:Int)<N),true),(decide (0+(n:Int).toNat*1<ls.length),true),
 (decide (0≤nI n∧nI n<N),true),(decide (0+(nI n).toNat*1<ls.length),true),(decide (MM ls n<mW (KT ms n+1)),true)]),[],W2 ls ms n m N M (.v (.int .u64 (W3 (gQ ls ms n))))):=by kernel_rfl
theorem ANk:AS Tryz.prog KR (some 0) 200 2 kB (KS ls ms n m N M [true,false,false])=some (T3 ls ms n N true (W4 ls ms n N false [(decide (MM ls n<mW (KT ms n+1)),false)]),[],W2 ls ms n m N M (.n .u64 1)):=by kernel_rfl
theorem ANl:AM Tryz.prog KR Tryz.f212 200 2 [0] (KS ls ms n m N M [false])=some (T3 ls ms n N false [],[],.tup [],[(0,some ⟨24,[.seq .u64 ls],false⟩)]):=by kernel_rfl
def gR:Int:=ls.getD (0+i.toNat*1) 0
def gS:Int:=Bd (Dv q (Al ms 0 n i)) c 0
theorem ANm:AS Tryz.prog KR (some 0) 200 2 kB (QB ls ms n m N M q b i c [true]) =
 some ([(AJ .i64 N,true),(decide (i<N),true),(Nat.ble (0+n) ms.length,true),(AJ .i64 n,true),(decide (0≤i),true),(true,true),(decide (0≤i∧i<N),true),(decide (0+i.toNat*1<ls.length),true),(Bo b,true),(decide (0≤i∧i<N),true),(decide (0+i.toNat*1<ls.length),true)],[0],
  QB (ls.set (0+i.toNat*1) (DK (gR ls i) (gS ms n q i c) b)) ms n m N M q (GN (gR ls i) (gS ms n q i c) b) (wI (i+1)) (mW (HQ q (Al ms 0 n i)+B8 (Dv q (Al ms 0 n i)) c 0)) []):=by kernel_rfl
theorem ANn:AS Tryz.prog KR (some 0) 200 2 kA (QB ls ms n m N M q b i c [false])=some ([(AJ .i64 N,true),(decide (i<N),false)],[],KS ls ms n m N M []):=by kernel_rfl
end
def FB (q M i:Nat):Nat:=q*(M % 2^(64*i)) / 2^(64*i)
theorem W5 (i:Nat):0<2^(64*i):=Nat.pow_pos (by decide)
theorem AAE (i:Nat):2^(64*(i+1))=2^(64*i)*18446744073709551616:=by rw [show 64*(i+1)=64*i+64 by omega,Nat.pow_add]
theorem ANo {q:Nat} (hq:q<18446744073709551616) (M i:Nat):FB q M i<18446744073709551616:=by
 unfold FB
 refine Nat.div_lt_of_lt_mul ?_
 have h1:=Nat.mod_lt M (W5 i)
 rcases Nat.eq_zero_or_pos q with rfl | h0
 ·rw [Nat.zero_mul];exact Nat.mul_pos (W5 i) (by decide)
 ·calc q*(M % 2^(64*i))<q*2^(64*i):=Nat.mul_lt_mul_of_pos_left h1 h0
   _≤2^(64*i)*18446744073709551616:=by rw [Nat.mul_comm];exact Nat.mul_le_mul_left _ (by omega)
theorem ANp (q M Q W:Nat) (hQ:0<Q):q*(M % (Q*W)) / (Q*W)=(q*(M / Q % W)+q*(M % Q) / Q) / W∧q*M / Q % W=(q*(M / Q % W)+q*(M % Q) / Q) % W:=by
 have e1:q*(M % (Q*W))=q*(M % Q)+Q*(q*(M / Q % W)):=by rw [Nat.mod_mul,Nat.mul_add,Nat.mul_left_comm]
 have e2:q*(M % (Q*W)) / Q=q*(M / Q % W)+q*(M % Q) / Q:=by rw [e1,Nat.add_mul_div_left _ _ hQ];omega
 refine ⟨by rw [← Nat.div_div_eq_div_mul,e2],?_⟩
 have e3:q*M=q*(M % (Q*W))+Q*(W*(q*(M / (Q*W)))):=by
  have h:=Nat.div_add_mod M (Q*W)
  have h2:q*M=q*(Q*W*(M / (Q*W))+M % (Q*W)):=by rw [h]
  rw [h2,Nat.mul_add,Nat.add_comm]
  congr 1
  simp only [Nat.mul_left_comm,Nat.mul_assoc]
 rw [e3,Nat.add_mul_div_left _ _ hQ,Nat.add_mul_mod_self_left,e2]
theorem ANq {q:Nat} (hq:q<18446744073709551616) (M i:Nat):Bd (Dv q (AE M i)) (FB q M i) 0=AE (q*M) i∧mW (HQ q (AE M i)+B8 (Dv q (AE M i)) (FB q M i) 0)=FB q M (i+1):=by
 obtain ⟨h1,h2,h3⟩:=KB (a:=(q:Int)) (q:=AE M i) (c:=FB q M i) (by omega) (BN M i) (by have:=ANo hq M i;omega)
 obtain ⟨g1,g2⟩:=ANp q M (2^(64*i)) 18446744073709551616 (W5 i)
 have e:FB q M (i+1)=(q*(M / 2^(64*i) % 18446744073709551616)+FB q M i) / 18446744073709551616:=by unfold FB;rw [AAE];exact g1
 have e':((q*(M / 2^(64*i) % 18446744073709551616)+FB q M i:Nat):Int)=q*AE M i+FB q M i:=by rw [Int.natCast_add,Int.natCast_mul];rfl
 have g2':AE (q*M) i=((q*(M / 2^(64*i) % 18446744073709551616)+FB q M i:Nat):Int) % 18446744073709551616:=by
  show ((q*M / 2^(64*i) % 2^64:Nat):Int)=_
  rw [show (2:Nat)^64=18446744073709551616 from rfl,g2];rfl
 have e'':((FB q M (i+1):Nat):Int)=((q*(M / 2^(64*i) % 18446744073709551616)+FB q M i:Nat):Int) / 18446744073709551616:=by rw [e];rfl
 rw [g2',e'',e',h1]
 constructor<;>omega
def wl (k x:Nat):List Int:=(List.range k).map (AE x)
theorem Hk (k x:Nat):(wl k x).length=k:=by simp [wl]
theorem ANr {k x:Nat}:∀ d∈wl k x,0≤d∧d<18446744073709551616:=fun d hd=>by
 obtain ⟨i,_,rfl⟩:=List.mem_map.1 hd
 exact BN x i
theorem gT:∀ {l:List Int},(∀ d∈l,0≤d∧d<18446744073709551616)→((AF l:Nat):Int)=BG l
 | [],_=>rfl
 | d::r,h=>by
  have hd:=h d (by simp)
  have ih:=gT (l:=r) fun d h'=>h d (by simp [h'])
  simp only [AF,BG]
  omega
theorem T4 {k x:Nat} (h:x<2^(64*k)):AF (wl k x)=x:=by
 have:=gT (ANr (k:=k) (x:=x))
 rw [show wl k x=(List.range k).map (AE x) from rfl,Sz k x h] at this
 exact Int.ofNat.inj this
theorem ANs {l:List Int} {n:Nat} (h:l.length=n):AA l 0 n=l:=by subst h;simp [AA]
theorem AAF {k x i:Nat} (h:i<k):(wl k x).getD i 0=AE x i:=by simp [wl,List.getD_eq_getElem?_getD,h]
theorem ANt {l:List Int} (h:∀ d∈l,0≤d∧d<18446744073709551616):l=wl l.length (AF l):=(S_ l _ h (gT h)).1
def FU (L T N i:Nat):List Int:=(List.range N).map fun j=>if j<i then BR L T j else AE L j
theorem ANu {L T N i:Nat} (h:i<N):(FU L T N i).getD i 0=AE L i:=by simp [FU,List.getD_eq_getElem?_getD,h]
theorem ANv {L T N i:Nat} (h:i<N):(FU L T N i).set i (BR L T i)=FU L T N (i+1):=by
 refine List.ext_getElem? fun j=>?_
 rw [List.getElem?_set]
 by_cases hj:j<N
 ·by_cases e:i=j
  ·subst e;simp [FU,h]
  ·simp only [FU,List.getElem?_map,List.getElem?_range hj,Option.map_some,if_neg e]
   by_cases q:j<i
   ·rw [if_pos q,if_pos (by omega)]
   ·rw [if_neg q,if_neg (by omega)]
 ·have e:i≠j:=by omega
  rw [if_neg e]
  simp [FU,hj]
theorem ANw (L T N:Nat):FU L T N 0=wl N L:=by simp [FU,wl]
theorem ANx {L T N:Nat} (hT:T≤L) (hL:L<2^(64*N)):FU L T N N=wl N (L-T):=by
 have e:FU L T N N=(List.range N).map (BR L T):=List.map_congr_left fun j hj=>if_pos (List.mem_range.1 hj)
 have h:=wX (k:=N) hL (Nat.lt_of_le_of_lt hT hL)
 have e2:(L+(2^(64*N)-T)) % 2^(64*N)=L-T:=by
  rw [show L+(2^(64*N)-T)=(L-T)+2^(64*N) by omega,Nat.add_mod_right,Nat.mod_eq_of_lt (by omega)]
 rw [e2] at h
 have:=(S_ ((List.range N).map (BR L T)) (L-T) (fun d hd=>by obtain ⟨i,_,rfl⟩:=List.mem_map.1 hd;exact EB L T i) h).1
 rw [e,this]
 simp [wl]
theorem ANy {L M Q t q:Nat} (hM:M<(t+1)*Q) (hq:q≤L / Q / (t+1)):q*M≤L:=by
 calc q*M≤q*((t+1)*Q):=Nat.mul_le_mul_left _ (by omega)
  _=q*(t+1)*Q:=by rw [Nat.mul_assoc]
  _≤L / Q*Q:=Nat.mul_le_mul_right _ (Nat.le_trans (Nat.mul_le_mul_right _ hq) (Nat.div_mul_le_self _ _))
  _≤L:=Nat.div_mul_le_self _ _
def T5 (N x:Nat):Heap:=[(0,some ⟨24,[.seq .u64 (wl N x)],false⟩)]
section
variable {ms:List Int} {n m M:Nat} (hm:∀ d∈ms,0≤d∧d<18446744073709551616) (hl:n≤ms.length) (hn:n≤1125899906842624) {V:Nat} (hV:AF (AA ms 0 n)=V) (h0:0<V) {β0:Env} {w0:World} (hb:∀ b,2≤b→β0 b=none)
include hm hl hn hV h0 hb
omit h0 in
theorem ANz {L q:Nat} (hq:q<18446744073709551616) {R:Ending→World→Prop} (hk:ASafe Tryz.prog 212 β0 w0 R Tryz.f212.ntmps [0] (KS (FU L (q*V) (n+1) (n+1)) ms n m (n+1) M [])) :
  ∀ r i,i+r=n+1→ASafe Tryz.prog 212 β0 w0 R Tryz.f212.ntmps [0] (QB (FU L (q*V) (n+1) i) ms n m (n+1) M q (Bf L (q*V) i) i (FB q V i) []):=by
 intro r
 induction r with
 | zero =>
  intro i hi
  obtain rfl:i=n+1:=by omega
  exact Ab [false] (Ae (AK Ix Aa) AB (ANn ..) ⟨by simp only [AJ,Bool.and_eq_true,decide_eq_true_eq];omega,by simp,trivial⟩ (AL (by kernel_rfl)) hb (fun _ h=>by cases h) fun _=>hk)
 | succ r ih =>
  intro i hi
  obtain ⟨w1,w2⟩:=ANq hq V i
  have ha:Al ms 0 n i=AE V i:=by rw [← hV];exact Nm (off:=0) (n:=n) hm i
  have ei:0+(i:Int).toNat*1=i:=by omega
  have hlen:(FU L (q*V) (n+1) i).length=n+1:=by simp [FU]
  refine Ab [true] (Ae (AK Ix Aa) AB (ANm ..) ?_ (AL (by kernel_rfl)) hb (fun k h=>by simpa using h) fun _=>?_)
  ·rw [ei,hlen]
   refine ⟨by simp only [AJ,Bool.and_eq_true,decide_eq_true_eq];omega,by simp<;>omega,Nat.ble_eq_true_of_le (by omega),by simp only [AJ,Bool.and_eq_true,decide_eq_true_eq];omega,by simp,rfl,by simp<;>omega,by simp<;>omega,Cw (Ek L _ i),by simp<;>omega,by simp<;>omega,trivial⟩
  ·unfold gR gS
   rw [ei,ha,w1,w2,ANu (by omega),Am (z:=(i:Int)+1) (by omega)]
   show ASafe _ _ _ _ _ _ _ (QB ((FU L (q*V) (n+1) i).set i (BR L (q*V) i)) _ _ _ _ _ _ (Bf L (q*V) (i+1)) _ _ _)
   rw [ANv (by omega)]
   exact ih (i+1) (by omega)
theorem AN0:∀ L,L<2^(64*(n+1))→ASafe Tryz.prog 212 β0 w0 (Ay β0 w0 [0] (.tup []) (T5 (n+1) (L % V))) Tryz.f212.ntmps [0] (KS (wl (n+1) L) ms n m (n+1) M []):=by
 intro L
 induction L using Nat.strongRecOn with
 | _ L ih =>
 intro hL
 have hlen:=Hk (n+1) L
 have hwin:AF (AA (wl (n+1) L) 0 (n+1))=L:=by rw [ANs hlen,T4 hL]
 have hbN:AJ .i64 ((n+1:Nat):Int)=true:=by simp only [AJ,Bool.and_eq_true,decide_eq_true_eq];omega
 have hbn:AJ .i64 (n:Int)=true:=by simp only [AJ,Bool.and_eq_true,decide_eq_true_eq];omega
 have hC:∀ d r,decide (V≤L)=d→AQ r→AQ (T3 (wl (n+1) L) ms n (n+1) d r):=by
  intro d r hd hr
  refine ⟨Nat.ble_eq_true_of_le (by omega),Nat.ble_eq_true_of_le (by omega),hbN,hbn,?_,hr⟩
  rw [hwin,hV,← hd]
  unfold C6
  by_cases h:V≤L
  ·rw [if_neg (by omega)];split<;>simp [h]
  ·rw [if_pos (by omega)];simp [h]
 by_cases hle:V≤L
 ·have n1:1≤n:=by
   rcases Nat.eq_zero_or_pos n with e | e
   ·subst e;rw [show AA ms 0 0=[] by simp [AA]] at hV;simp [AF] at hV;omega
   ·exact e
  have hnI:nI n=((n-1:Nat):Int):=by unfold nI;rw [Am (by omega)];omega
  have htm:KT ms n=AE V (n-1):=by
   have:=Nm (off:=0) (n:=n) hm (n-1)
   rw [hV] at this
   unfold KT
   rw [hnI,Int.toNat_natCast,Nat.mul_one,← G8 (n:=n) (by omega)]
   unfold Al AA at this
   rw [Int.toNat_natCast] at this
   exact this
  have htl:MM (wl (n+1) L) n=AE L n:=by unfold MM;rw [Int.toNat_natCast,Nat.mul_one,Nat.zero_add,AAF (by omega)]
  have htl2:(wl (n+1) L).getD (0+(nI n).toNat*1) 0=AE L (n-1):=by rw [hnI,Int.toNat_natCast,Nat.mul_one,Nat.zero_add,AAF (by omega)]
  have bt:=BN V (n-1)
  have bl:=BN L n
  have hVlt:V<2^(64*n):=by
   have:=G7 (AA ms 0 n) (Cp hm)
   rw [hV] at this
   unfold AA at this
   rwa [List.length_take,List.length_drop,Nat.min_eq_left (by omega)] at this
  obtain ⟨k,rfl⟩:∃ k,n=k+1:=⟨n-1,by omega⟩
  rw [Nat.add_sub_cancel] at *
  have tV:AE V k=((V / 2^(64*k):Nat):Int):=by
   show ((V / 2^(64*k) % 2^64:Nat):Int)=_
   rw [Nat.mod_eq_of_lt]
   refine Nat.div_lt_of_lt_mul ?_
   rw [← Nat.pow_add];rwa [show 64*k+64=64*(k+1) by omega]
  have tL:AE L (k+1)=((L / 2^(64*(k+1)):Nat):Int):=by
   show ((L / 2^(64*(k+1)) % 2^64:Nat):Int)=_
   rw [Nat.mod_eq_of_lt]
   refine Nat.div_lt_of_lt_mul ?_
   rw [← Nat.pow_add];rwa [show 64*(k+1)+64=64*(k+1+1) by omega]
  have tL2:((L / 2^(64*k):Nat):Int)=AE L (k+1)*18446744073709551616+AE L k:=by
   rw [tL]
   show _=_+((L / 2^(64*k) % 2^64:Nat):Int)
   rw [AAE,← Nat.div_div_eq_div_mul]
   omega
  have hMb:V<(V / 2^(64*k)+1)*2^(64*k):=by rw [Nat.mul_comm];exact Nat.lt_mul_div_succ V (W5 k)
  have hD:∀ d r,decide (AE V k+1=18446744073709551616)=d→AQ r→AQ (W4 (wl (k+1+1) L) ms (k+1) (k+1+1) d r):=by
   intro d r hd hr
   refine ⟨by rw [hnI];simp<;>omega,by rw [hnI];simp<;>omega,?_,by simp<;>omega,by rw [hlen];simp<;>omega,hr⟩
   rw [htm,← hd,EN]
   by_cases h:AE V k+1=18446744073709551616
   ·simp [h]
   ·rw [decide_eq_false h,decide_eq_false (by omega)]
  have fin:∀ (q:Nat),1≤q→q<18446744073709551616→q*V≤L→ASafe Tryz.prog 212 β0 w0 (Ay β0 w0 [0] (.tup []) (T5 (k+1+1) (L % V))) Tryz.f212.ntmps [0] (QB (wl (k+1+1) L) ms (k+1) m (k+1+1) M q 0 0 0 []):=by
   intro q q1 q2 q3
   have hpos:0<q*V:=Nat.mul_pos q1 h0
   have hh:=ih (L-q*V) (by omega) (by omega)
   have e:(L-q*V) % V=L % V:=by
    have:=Nat.sub_mul_mod (x:=L) (n:=V) (k:=q) (by rw [Nat.mul_comm];exact q3)
    rwa [Nat.mul_comm] at this
   rw [e,← ANx q3 hL] at hh
   have:=ANz hm hl hn hV hb (m:=m) (M:=M) q2 hh (k+1+1) 0 (by omega)
   rw [ANw] at this
   have c0:((FB q V 0:Nat):Int)=0:=by unfold FB;simp [Nat.mod_one]
   rw [c0] at this
   exact this
  have go:∀ (qc:Ch) (q:Nat),nv qc=.v (.int .u64 q)→1≤q→q<18446744073709551616→q*V≤L→ASafe Tryz.prog 212 β0 w0 (Ay β0 w0 [0] (.tup []) (T5 (k+1+1) (L % V))) Tryz.f212.ntmps [0] (W2 (wl (k+1+1) L) ms (k+1) m (k+1+1) M qc):=by
   intro qc q hqc q1 q2 q3
   refine E_ ?_
   have:=fin q q1 q2 q3
   have e:(Tz (k+1) m (k+1+1) M qc (.n .u64 0) (.n .i64 0) (.n .u64 0)).map EF=Tz (k+1) m (k+1+1) M (.v (.int .u64 q)) (.v (.int .u64 0)) (.v (.int .i64 0)) (.v (.int .u64 0)):=by
    unfold Tz
    simp only [List.map_cons,List.map_replicate,EF,List.map_nil,hqc]
    rfl
   rw [e];exact this
  have one:∀ q:Nat,q<18446744073709551616→q*V≤L→1≤max 1 q∧max 1 q<18446744073709551616∧max 1 q*V≤L∧W3 (q:Int)=((max 1 q:Nat):Int):=by
   intro q h1 h2
   refine ⟨by omega,by omega,?_,by unfold W3;split<;>omega⟩
   rcases Nat.eq_zero_or_pos q with rfl | hq
   ·simpa using hle
   ·rw [Nat.max_eq_right hq];exact h2
  by_cases ht:AE V k+1=18446744073709551616
  ·have hq:L / 2^(64*(k+1))*V≤L:=Nat.le_trans (Nat.mul_le_mul_left _ (by omega)) (Nat.div_mul_le_self L (2^(64*(k+1))))
   obtain ⟨a1,a2,a3,a4⟩:=one (L / 2^(64*(k+1))) (by omega) hq
   refine Ab [true,true] (Ae (AK Ix Aa) AB (ANi ..) (hC true _ (decide_eq_true hle) (hD true _ (decide_eq_true ht) trivial)) (AL (by kernel_rfl)) hb (fun _ h=>by cases h) fun _=>?_)
   rw [htl,tL,a4]
   exact go _ _ rfl a1 a2 a3
  ·have hmw:mW (KT ms (k+1)+1)=((V / 2^(64*k)+1:Nat):Int):=by rw [htm,EN,tV];omega
   by_cases hlt:AE L (k+1)<AE V k+1
   ·have hq:gQ (wl (k+1+1) L) ms (k+1)=((L / 2^(64*k) / (V / 2^(64*k)+1):Nat):Int):=by
     unfold gQ
     rw [hmw,htl,htl2,Int.toNat_natCast]
     have:(AE L (k+1)).toNat*B9+(AE L k).toNat=L / 2^(64*k):=by
      have:=BN L k
      unfold B9
      omega
     rw [this]
    have hb1:L / 2^(64*k) / (V / 2^(64*k)+1)<18446744073709551616:=by
     refine Nat.div_lt_of_lt_mul ?_
     have:=BN L k
     omega
    obtain ⟨a1,a2,a3,a4⟩:=one _ hb1 (ANy hMb (Nat.le_refl _))
    refine Ab [true,false,true] (Ae (AK Ix Aa) AB (ANj ..) (hC true _ (decide_eq_true hle) (hD false _ (decide_eq_false ht) ?_)) (AL (by kernel_rfl)) hb (fun _ h=>by cases h) fun _=>?_)
    ·have h4:MM (wl (k+1+1) L) (k+1)<mW (KT ms (k+1)+1):=by rw [htl,hmw];omega
     refine ⟨decide_eq_true h4,by simp<;>omega,by rw [hlen];simp<;>omega,by rw [hnI];simp<;>omega,by rw [hnI,hlen];simp<;>omega,decide_eq_true h4,trivial⟩
    ·rw [hq,a4]
     exact go _ _ rfl a1 a2 a3
   ·refine Ab [true,false,false] (Ae (AK Ix Aa) AB (ANk ..) (hC true _ (decide_eq_true hle) (hD false _ (decide_eq_false ht) ⟨decide_eq_false (by rw [htl,hmw];omega),trivial⟩)) (AL (by kernel_rfl)) hb (fun _ h=>by cases h) fun _=>?_)
    exact go _ 1 rfl (by omega) (by omega) (by omega)
 ·rw [Nat.mod_eq_of_lt (by omega)]
  exact Ab [false] (As (AK Ix Aa) AB Tryz.func212 (ANl ..) (hC false _ (decide_eq_false hle) trivial) (AL (by kernel_rfl)) hb (fun _ h=>by cases h))
end
theorem AN1 {ms:List Int} {n m M:Nat} (hm:∀ d∈ms,0≤d∧d<18446744073709551616) (hl:n≤ms.length) (hn:n≤1125899906842624) (h0:0<AF (AA ms 0 n)) {ls:List Int} (hls:∀ d∈ls,0≤d∧d<18446744073709551616) (hlen:ls.length=n+1) :
  Ad Tryz.prog 212 (W1 n m (n+1) M) (N4 ls ms) 2 [0] (.tup []) (T5 (n+1) (AF ls % AF (AA ms 0 n))):=by
 refine Av (path:=[]) Tryz.func212 (by kernel_rfl) (by kernel_rfl) fun β0 w0 hb=>?_
 refine Ae (AK Ix Aa) AB (ANh ..) trivial (AL (by kernel_rfl)) hb (fun _ h=>by cases h) fun _=>?_
 have e:=ANt hls
 rw [hlen] at e
 have hlt:=G7 ls hls
 rw [hlen] at hlt
 have:=AN0 hm hl hn rfl h0 (m:=m) (M:=M) (w0:=w0) hb (AF ls) hlt
 rw [← e] at this
 exact this
def takeSpec:ASpec:=fun args H fr path =>
 match args with
 | [.val false [.sl k off N _],.val false [.sl t off' n _],I]=>match BJ (some I),AG H k,AG H t with
  | some (_,.i64,i),some ⟨ty,cs,false⟩,some ⟨_,ds,_⟩=>match Ao .u64 cs,Ao .u64 ds,Nat.beq k t,Nat.beq off 0&&(Nat.beq off' 0&&Nat.beq ty 24) with
   | some ls,some ms,false,true=>some (A5 [k,t] 2 fr 0 [0] (.tup []) (T5 N (AF ls % AF (AA ms 0 n))) [(Nat.beq N (n+1),true),(Nat.beq N ls.length,true),(Nat.ble n ms.length,true),(Nat.ble n 1125899906842624,true),(decide (i=n),true),(Nat.blt 0 (AF (AA ms 0 n)),true)] path)
   | _,_,_,_=>none
  | _,_,_=>none
 | _=>none
theorem AN2:A6 Tryz.prog 212 takeSpec:=by
 refine CS Tryz.func212 (by kernel_rfl) (by kernel_rfl) fun args H fr path r h=>?_
 unfold takeSpec at h
 split at h
 case h_2=>cases h
 rename_i k off N M t off' n m I
 split at h
 case h_2=>cases h
 rename_i c0 i ty cs ty' ds o' hI hk ht
 split at h
 case h_2=>cases h
 rename_i ls ms hls hms hkt hoff
 injection h with h
 simp only [Bool.and_eq_true] at hoff
 obtain ⟨o1,o2,o3⟩:=hoff
 obtain rfl:=An.1 o1
 obtain rfl:=An.1 o2
 obtain rfl:=An.1 o3
 refine ⟨[k,t],2,0,[0],_,_,_,path,h.symm,fun β us w ha hg hc=>?_⟩
 obtain ⟨u1,us1,r1,⟨u2,us2,r2,⟨u3,us3,r3,ha,rfl⟩,rfl⟩,rfl⟩:=ha
 obtain ⟨c1,c2,c3,c4,c5,c6,_⟩:=hc
 obtain rfl:=An.1 c1
 have hil:i=(n:Int):=by simpa using c5
 subst hil
 obtain ⟨l1,g1⟩:=HT hg hk
 obtain ⟨_,b1⟩:=CY hls g1
 obtain ⟨l2,g2⟩:=HT hg ht
 obtain ⟨_,b2⟩:=CY hms g2
 obtain ⟨rfl,p1⟩:=CH (β:=β) (u:=u3) (fun A hA=>by injection hA with hA;subst hA;exact r3) hI
 have hne:k≠t:=Gw hkt
 refine ⟨W1 n m (n+1) M,N4 ls ms,AN1 (fun d hd=>DQ (b2 d hd)) (Nat.le_of_ble_eq_true c3) (Nat.le_of_ble_eq_true c4) (A8.1 c6) (fun d hd=>DQ (b1 d hd)) (An.1 c2).symm,by kernel_rfl,
  ⟨u1,_,BS (by omega) rfl r1,⟨u2,_,BS (by omega) rfl r2,⟨_,us3,Aw ⟨rfl,rfl,p1⟩,ha,rfl⟩,rfl⟩,rfl⟩,?_,fun j hj=>?_⟩
 ·refine TA (ρ:=[k,t]) (bs:=[⟨24,[.seq .u64 ls],false⟩,Ai [.seq .u64 ms]]) hg (fun j d hj=>?_) fun i j d hi hr hij hj=>?_
  ·match j,hj with
   | 0,hj =>
    injection hj with hj;subst hj
    refine ⟨_,hk,.inr ⟨rfl,rfl⟩,fun l hl=>?_⟩
    obtain ⟨q1,q2⟩:=CY hls hl
    exact ⟨_,[],⟨q1,q2⟩,rfl,by simp⟩
   | 1,hj =>
    injection hj with hj;subst hj
    refine ⟨_,ht,.inl rfl,fun l hl=>?_⟩
    obtain ⟨q1,q2⟩:=CY hms hl
    exact ⟨_,[],⟨q1,q2⟩,rfl,by simp⟩
  ·match i,j,hi,hj,hij with
   | 0,1,_,_,_=>exact hne
   | 1,_,hi,_,_=>injection hi with hi;subst hi;exact absurd rfl hr
   | 0,0,_,_,q=>exact absurd rfl q
 ·match j,hj with
  | 0,_=>exact BZ (hg.heap _ _ hk)
  | 1,_=>exact BZ (hg.heap _ _ ht)
noncomputable def SIa:List (FuncId×ASpec):=(212,takeSpec)::S22
theorem AN3:AX Tryz.prog SIa:=⟨AN2,Ix⟩
noncomputable abbrev oMd:Orc:=AH SIa K0
theorem W6:OrcOk Tryz.prog oMd:=AK AN3 Aa
def W7 (off n m N M:Nat):List AV:=[.val false [.sl 0 off N M],.val false [.sl 1 0 n m]]
noncomputable def AN4:List Item:=Be (AS Tryz.prog oMd (some 0) 100 2 none (Af Tryz.f130 (W7 0 0 0 0 0) (Co [] []) 2 []))
noncomputable def mdT (off n m N M:Nat) (k:Int):List AV:=.val false [.sl 0 off N M]::.val false [.sl 1 0 n m]::.any::.any::.val false [.v (.slice none 0 0)]::.val false [.n .i64 0]::.val false [.v (.int .i64 k)]::List.replicate (Tryz.f130.ntmps-7) .any
noncomputable def gU (off:Nat) (xs ms:List Int) (n m N M:Nat) (k:Int) (p:List Bool):ASt:=⟨AN4,⟨mdT off n m N M k,Co xs ms,2,p⟩⟩
noncomputable def AN6:List Item:=Be (AS Tryz.prog oMd (some 0) 100 2 none (gU 0 [] [] 0 0 0 0 0 [true,false,false]))
noncomputable def AN7 (off n m N M L:Nat) (k i:Int):List AV:=.val false [.sl 0 off N M]::.val false [.sl 1 0 n m]::.any::.any::.val false [.v (.slice none 0 0)]::.val false [.n .i64 0]::.val false [.v (.int .i64 k)]::.val false [.sl 2 0 L L]::.val false [.v (.int .i64 i)]::List.replicate (Tryz.f130.ntmps-9) .any
noncomputable def T6 (off:Nat) (xs ms ls:List Int) (n m N M L:Nat) (k i:Int) (p:List Bool):ASt:=⟨AN6,⟨AN7 off n m N M L k i,[(0,some (Ai [.seq .u64 xs])),(1,some (Ai [.seq .u64 ms])),(2,some ⟨24,[.seq .u64 ls],false⟩)],3,p⟩⟩
def W8 (L:Nat) (ls:List Int) (x:Int):List Int:=(List.take (0+Int.toNat 1*1) ls++(List.take (Nat.min L (L-Int.toNat 1)) (List.drop 0 ls)++List.drop (0+Int.toNat 1*1+Nat.min L (L-Int.toNat 1)*1) ls)).set (0+Int.toNat 0*1) x
def gV (L:Nat) (ls:List Int):List Int:=List.take (0+Int.toNat 1*1) ls++(List.take (Nat.min L (L-Int.toNat 1)) (List.drop 0 ls)++List.drop (0+Int.toNat 1*1+Nat.min L (L-Int.toNat 1)*1) ls)
def KU (n:Nat):Int:=wI ((n:Int)+1)
section
variable (off:Nat) (xs ms ls:List Int) (n m N M L:Nat) (k i:Int)
theorem AN8:AS Tryz.prog oMd (some 0) 100 2 (some ([0,1,4,5,6],[0,1],2)) (Af Tryz.f130 (W7 off n m N M) (Co xs ms) 2 [])=some ([(AJ .i64 n,true)],[],gU off xs ms n m N M n []):=by kernel_rfl
theorem AN9:AS Tryz.prog oMd (some 0) 100 2 (some ([0,1,4,5,6,7,8],[0,1,2],3)) (gU off xs ms n m N M k [true,false,false]) =
 some ([(decide (0<k),true),(decide (0≤wI (k-1)∧wI (k-1)<n),true),(decide (0+(wI (k-1)).toNat*1<ms.length),true),(decide (ms.getD (0+(wI (k-1)).toNat*1) 0=0),false),(decide (k=0),false),(AJ .i64 n,true),
  (decide (0≤KU n∧KU n≤KU n∧((8:Nat):Int)*KU n≤281474976710656∧KU n≤9223372036854775807),true),(AJ .i64 N,true)],[],
  T6 off xs ms (List.replicate (KU n).toNat 0) n m N M (KU n).toNat k (wI ((N:Int)-1)) []):=by kernel_rfl
theorem AN_:AS Tryz.prog oMd (some 0) 100 2 (some ([0,1,4,5,6,7,8],[0,1,2],3)) (T6 off xs ms ls n m N M L k i [true,false]) =
 some ([(decide (0≤i),true),(decide ((0:Int)≤1∧1≤(L:Int)),true),(Nat.beq L (Int.toNat 1),false),(Nat.ble (0+Nat.min L (L-Int.toNat 1)) ls.length,true),(Nat.ble (0+Int.toNat 1*1+Nat.min L (L-Int.toNat 1)*1) ls.length,true),
  (decide (0≤i∧i<N),true),(decide (off+i.toNat*1<xs.length),true),(decide ((0:Int)≤0∧0<(L:Int)),true),(decide (0+Int.toNat 0*1<(gV L ls).length),true),(decide (0≤k∧k≤m),true),(true,true),
  (Nat.beq L (k.toNat-0+1),true),(Nat.beq L (W8 L ls (xs.getD (off+i.toNat*1) 0)).length,true),(Nat.ble (k.toNat-0) ms.length,true),(Nat.ble (k.toNat-0) 1125899906842624,true),(decide (k=((k.toNat-0:Nat):Int)),true),(Nat.blt 0 (AF (AA ms 0 (k.toNat-0))),true)],[],
  T6 off xs ms (wl L (AF (W8 L ls (xs.getD (off+i.toNat*1) 0)) % AF (AA ms 0 (k.toNat-0)))) n m N M L k (wI (i-1)) []):=by kernel_rfl
def gW (n L:Nat):AV:=.tup [(false,[.sl 2 0 ((n:Int).toNat-0) (L-0)]),(false,[.n .i64 0])]
def gZ (L x:Nat):Heap:=[(2,some ⟨24,[.seq .u64 (wl L x)],false⟩)]
theorem AN':AM Tryz.prog oMd Tryz.f130 100 2 [2] (T6 off xs ms ls n m N M L k i [false]) =
 some ([(decide (0≤i),false),(AJ .i64 n,true),(decide (0≤(n:Int)∧(n:Int)≤L),true),(true,true)],[],gW n L,[(2,some ⟨24,[.seq .u64 ls],false⟩)]):=by kernel_rfl
end
theorem AAG {n:Nat} {ls:List Int} (h:ls.length=n+1) (x:Int):W8 (n+1) ls x=x::ls.take n:=by
 obtain ⟨a,r,rfl⟩:∃ a r,ls=a::r:=by cases ls with | nil=>simp at h | cons a r=>exact ⟨a,r,rfl⟩
 have e1:Int.toNat 1=1:=rfl
 have e0:Int.toNat 0=0:=rfl
 have e2:Nat.min (n+1) (n+1-1)=n:=Nat.min_eq_right (by omega)
 unfold W8
 rw [e1,e0,e2]
 have e3:List.drop (0+1*1+n*1) (a::r)=[]:=List.drop_eq_nil_of_le (by simp at h ⊢;omega)
 rw [e3]
 simp
theorem g0 (n X:Nat):(wl (n+1) X).take n=wl n X:=by
 unfold wl
 rw [← List.map_take,List.range_succ,List.take_left' (by simp)]
theorem AOA {n:Nat} {ls:List Int} (h:ls.length=n+1):0<(gV (n+1) ls).length:=by
 unfold gV
 rw [List.length_append,List.length_take,h]
 have e1:Int.toNat 1=1:=rfl
 rw [e1];omega
theorem AOB (n:Nat):wl n 0=List.replicate n 0:=by
 unfold wl
 refine List.ext_getElem? fun i=>?_
 by_cases h:i<n
 ·simp [h,AE]
 ·simp [h]
theorem AOC {xs ms:List Int} {off n m N M:Nat} (hx:∀ d∈xs,0≤d∧d<18446744073709551616) (hm:∀ d∈ms,0≤d∧d<18446744073709551616) (hl:off+N≤xs.length) (hN:AJ .i64 N=true) (hl':n+1≤ms.length) (hn:n+1≤1099511627776) (hnm:n+1≤m) (ht:ms.getD n 0≠0) :
  Ad Tryz.prog 130 (W7 off (n+1) m N M) (Co xs ms) 2 [] (.tup [(false,[.sl 2 0 (n+1) (n+1+1)]),(false,[.n .i64 0])]) (gZ (n+1+1) (AF (AA xs off N) % AF (AA ms 0 (n+1)))):=by
 have bN:N≤9223372036854775807:=by simp only [AJ,Bool.and_eq_true,decide_eq_true_eq] at hN;omega
 have hbn:AJ .i64 ((n+1:Nat):Int)=true:=by simp only [AJ,Bool.and_eq_true,decide_eq_true_eq];omega
 have hV0:0<AF (AA ms 0 (n+1)):=by
  have:=TK (AA ms 0 (n+1)) n (Cp hm)
  rw [show (AA ms 0 (n+1)).getD n 0=ms.getD n 0 from by unfold AA;rw [G8 (by omega),Nat.zero_add]] at this
  have hb:=J5 hm n
  rcases Nat.eq_zero_or_pos (AF (AA ms 0 (n+1))) with e | e
  ·rw [e,Nat.zero_div,Nat.zero_mod] at this
   omega
  ·exact e
 have hVlt:AF (AA ms 0 (n+1))<2^(64*(n+1)):=by
  have:=G7 (AA ms 0 (n+1)) (Cp hm)
  unfold AA at this ⊢
  rwa [List.length_take,List.length_drop,Nat.min_eq_left (by omega)] at this
 refine Av (path:=[]) Tryz.func130 (by kernel_rfl) (by kernel_rfl) fun β0 w0 hb=>?_
 refine Ae W6 AB (AN8 ..) ⟨hbn,trivial⟩ (AL (by kernel_rfl)) hb (fun _ h=>by cases h) fun _=>?_
 have e1:wI (((n+1:Nat):Int)-1)=(n:Int):=by rw [Am (by omega)];omega
 have e2:KU (n+1)=((n+1+1:Nat):Int):=by unfold KU;rw [Am (by omega)];omega
 refine Ab [true,false,false] (Ae W6 AB (AN9 ..) ?_ (AL (by kernel_rfl)) hb (fun _ h=>by cases h) fun _=>?_)
 ·rw [e1,e2]
  refine ⟨by simp<;>omega,by simp<;>omega,by simp<;>omega,?_,by simp<;>omega,hbn,by simp only [decide_eq_true_eq];omega,hN,trivial⟩
  rw [Int.toNat_natCast,Nat.mul_one,Nat.zero_add]
  exact decide_eq_false ht
 rw [e2,Int.toNat_natCast,← AOB]
 generalize hA:AF (AA xs off N)=A
 have hNw:(AA xs off N).length=N:=by unfold AA;rw [List.length_take,List.length_drop];omega
 have hA2:A<2^(64*N):=by rw [← hA];have:=G7 (AA xs off N) (Cp hx);rwa [hNw] at this
 generalize hV:AF (AA ms 0 (n+1))=V at *
 have loop:∀ c,c≤N→ASafe Tryz.prog 130 β0 w0 (Ay β0 w0 [] (.tup [(false,[.sl 2 0 (n+1) (n+1+1)]),(false,[.n .i64 0])]) (gZ (n+1+1) (A % V))) Tryz.f130.ntmps [] (T6 off xs ms (wl (n+1+1) (A / 2^(64*c) % V)) (n+1) m N M (n+1+1) ((n+1:Nat):Int) ((c:Int)-1) []):=by
  intro c
  induction c with
  | zero =>
   intro _
   rw [Nat.mul_zero,Nat.pow_zero,Nat.div_one]
   have h:=As (w0:=w0) (W:=[]) (n:=Tryz.f130.ntmps) W6 AB Tryz.func130 (AN' off xs ms (wl (n+1+1) (A % V)) (n+1) m N M (n+1+1) ((n+1:Nat):Int) (((0:Nat):Int)-1)) ⟨rfl,hbn,by simp<;>omega,rfl,trivial⟩ (AL (by kernel_rfl)) hb (fun _ h=>by cases h)
   have e:gW (n+1) (n+1+1)=.tup [(false,[.sl 2 0 (n+1) (n+1+1)]),(false,[.n .i64 0])]:=by unfold gW;rw [Int.toNat_natCast];rfl
   rw [e] at h
   exact Ab [false] h
  | succ c ih =>
   intro hc
   have hi:((c+1:Nat):Int)-1=(c:Int):=by omega
   rw [hi]
   have hlen:=Hk (n+1+1) (A / 2^(64*(c+1)) % V)
   have hk:((n+1:Nat):Int).toNat-0=n+1:=by omega
   have t1:Int.toNat 1=1:=rfl
   refine Ab [true,false] (Ae W6 AB (AN_ ..) ?_ (AL (by kernel_rfl)) hb (fun k h=>by cases h) fun _=>?_)
   ·rw [hk,hV,AAG hlen,hlen,t1]
    have e5:Nat.min (n+1+1) (n+1+1-1)=n+1:=Nat.min_eq_right (by omega)
    rw [e5]
    refine ⟨by simp,by simp<;>omega,FJ (by omega),Nat.ble_eq_true_of_le (by omega),Nat.ble_eq_true_of_le (by omega),by simp<;>omega,by simp<;>omega,by simp<;>omega,decide_eq_true (AOA hlen),by simp<;>omega,rfl,An.2 rfl,An.2 ?_,Nat.ble_eq_true_of_le (by omega),Nat.ble_eq_true_of_le (by omega),by simp,A8.2 hV0,trivial⟩
    rw [List.length_cons,List.length_take,hlen];omega
   ·rw [hk,hV,AAG hlen,g0,Am (z:=(c:Int)-1) (by omega)]
    have hs:=PX (Cp (off:=off) (n:=N) hx) c
    rw [hA,show (AA xs off N).getD c 0=xs.getD (off+(c:Int).toNat*1) 0 from by unfold AA;rw [G8 (by omega),Int.toNat_natCast,Nat.mul_one]] at hs
    have e6:AF (xs.getD (off+(c:Int).toNat*1) 0::wl (n+1) (A / 2^(64*(c+1)) % V)) % V=A / 2^(64*c) % V:=by
     simp only [AF]
     rw [T4 (Nat.lt_trans (Nat.mod_lt _ hV0) hVlt),hs]
     conv=>lhs;rw [Nat.add_mod,Nat.mul_mod,Nat.mod_mod,← Nat.mul_mod,← Nat.add_mod]
    rw [e6]
    exact ih (by omega)
 have:=loop N (Nat.le_refl _)
 rw [Nat.div_eq_of_lt hA2,Nat.zero_mod] at this
 rw [Am (z:=(N:Int)-1) (by omega)]
 exact this
def modSpec:ASpec:=fun args H fr path =>
 match args with
 | [S,.val false [.sl t off' n m]]=>match By S with
  | some (k,off,N)=>match AG H k,AG H t with
   | some ⟨_,cs,_⟩,some ⟨_,ds,_⟩=>match Ao .u64 cs,Ao .u64 ds,Nat.beq off' 0 with
    | some xs,some ms,true=>some (A5 [k,t] 2 fr 1 [] (.tup [(false,[.sl 2 0 n (n+1)]),(false,[.n .i64 0])]) (gZ (n+1) (AF (AA xs off N) % AF (AA ms 0 n)))
      [(Nat.ble (off+N) xs.length,true),(AJ .i64 N,true),(Nat.ble n ms.length,true),(Nat.ble n 1099511627776,true),(Nat.ble n m,true),(Nat.blt 0 n,true),(decide (ms.getD (n-1) 0=0),false)] path)
    | _,_,_=>none
   | _,_=>none
  | none=>none
 | _=>none
theorem AOD:A6 Tryz.prog 130 modSpec:=by
 refine CS Tryz.func130 (by kernel_rfl) (by kernel_rfl) fun args H fr path r h=>?_
 unfold modSpec at h
 split at h
 case h_2=>cases h
 rename_i S t off' n m
 split at h
 case h_2=>cases h
 rename_i k off N hS
 split at h
 case h_2=>cases h
 rename_i ty cs o ty' ds o' hk ht
 split at h
 case h_2=>cases h
 rename_i xs ms hxs hms hoff
 obtain rfl:=An.1 hoff
 injection h with h
 refine ⟨[k,t],2,1,[],_,_,_,path,h.symm,fun β us w ha hg hc=>?_⟩
 obtain ⟨u1,us1,r1,⟨u2,us2,r2,ha,rfl⟩,rfl⟩:=ha
 obtain ⟨M,r1⟩:=DF hS r1
 obtain ⟨c1,c2,c3,c4,c5,c6,c7,_⟩:=hc
 obtain ⟨j,rfl⟩:∃ j,n=j+1:=⟨n-1,by have:=A8.1 c6;omega⟩
 obtain ⟨g1,g1',g2,g3⟩:=V2 hg hk ht hxs hms
 exact ⟨W7 off (j+1) m N M,Co xs ms,AOC g1 g1' (Nat.le_of_ble_eq_true c1) c2 (Nat.le_of_ble_eq_true c3) (Nat.le_of_ble_eq_true c4) (Nat.le_of_ble_eq_true c5) (of_decide_eq_false c7),by kernel_rfl,
  ⟨u1,_,BS (by omega) rfl r1,⟨u2,_,BS (by omega) rfl r2,ha,rfl⟩,rfl⟩,g2,g3⟩
noncomputable def SId:List (FuncId×ASpec):=(130,modSpec)::SR4
theorem AAH:AX Tryz.prog SId:=⟨AOD,ANe⟩
theorem AAI {β β':Env} {k x:Nat} (h:x<2^(64*k)) {l:List Value} (hr:AN β [.seq .u64 (wl k x)] l):AN β' [.num k x] l:=by
 obtain ⟨l1,l2,⟨h1,_⟩,h2,h3⟩:=hr
 simp only [AN] at h2
 subst h1;subst h2
 rw [List.append_nil] at h3
 have:l=words k x:=by
  rw [h3]
  unfold wl words
  rw [List.map_map];rfl
 rw [this]
 exact SM h
def AAJ (l:List Int):List Int:=(wl 7 (AF l % AF (AA PL 0 6))).take 6
theorem AOE (off n m:Nat) (xs:List Int):AM Tryz.prog (AH SId K0) Tryz.f288 300 1 [] (Af Tryz.f288 [AI 0 off n m] (Az xs) 1 []) =
 some ([(Nat.ble (off+n) xs.length,true),(AJ .i64 n,true),(true,true),(true,true),(true,true),(true,true),(false,false),(true,true)],[],.val true [.seq .u64 (AAJ (AA xs off n))],[]):=by kernel_rfl
theorem AOF:AF (AA PL 0 6)=pN:=by kernel_rfl
theorem AOG {off n m:Nat} {xs:List Int} (hl:off+n≤xs.length) (hn:n≤1125899906842624):Ad Tryz.prog 288 [AI 0 off n m] (Az xs) 1 [] (AY (AF (AA xs off n) % pN)) []:=by
 refine BU (A2 AAH Aa Tryz.func288 (by kernel_rfl) (by kernel_rfl) (AOE off n m xs) (by kernel_rfl) ⟨Nat.ble_eq_true_of_le hl,Nu hn,rfl,rfl,rfl,rfl,rfl,rfl,trivial⟩) fun β u hu=>?_
 obtain ⟨l,q,rfl⟩:=hu
 refine ⟨l,AAI (β:=β) (k:=6) ?_ ?_,rfl⟩
 ·rw [← CZ];exact Nat.lt_trans (Nat.mod_lt _ CQ) (by decide)
 ·unfold AAJ at q
  rw [g0,AOF] at q
  exact q
noncomputable def SIe:List (FuncId×ASpec):=(288,Du (Tm fun _ l=>AY (AF l % pN)))::SId
theorem AAK:AX Tryz.prog SIe:=⟨EM (fT Tryz.func288 (by kernel_rfl) (by kernel_rfl) (fun _ _=>rfl) fun _ _ _ _ _ hl hn=>AOG hl hn),AAH⟩
end Go.Proofs.YtjlcdlekmpjjnaaGreat
namespace Go.Proofs.YtjlcdlekmpjjnaaGreat.Rg
set_option maxRecDepth 100000
set_option maxHeartbeats 4000000
def ch:Nat→Nat→Nat
 | _,0=>1
 | 0,_+1=>0
 | n+1,k+1=>ch n k+ch n (k+1)
theorem W9:∀ {n k:Nat},n<k→ch n k=0
 | 0,_+1,_=>rfl
 | n+1,k+1,h=>by simp only [ch];rw [W9 (by omega:n<k),W9 (by omega:n<k+1)]
theorem AAL:∀ n,ch n n=1
 | 0=>rfl
 | n+1=>by simp only [ch];rw [AAL n,W9 (Nat.lt_succ_self n)]
theorem W_:∀ n k,(k+1)*ch (n+1) (k+1)=(n+1)*ch n k
 | 0,0=>rfl
 | 0,k+1=>by simp [ch]
 | n+1,0=>by
  have h:=W_ n 0
  simp only [ch,Nat.mul_one,Nat.zero_add,Nat.one_mul] at h ⊢
  omega
 | n+1,k+1=>by
  have h1:=W_ n k
  have h2:=W_ n (k+1)
  have e1:ch (n+1+1) (k+1+1)=ch (n+1) (k+1)+ch (n+1) (k+1+1):=rfl
  have e2:ch (n+1) (k+1)=ch n k+ch n (k+1):=rfl
  rw [e1,Nat.mul_add,h2,show k+1+1=(k+1)+1 from rfl,Nat.add_mul (k+1) 1,h1,Nat.one_mul,Nat.add_mul (n+1) 1,Nat.one_mul]
  conv=>rhs;rw [e2,Nat.mul_add]
  omega
theorem AOH {p k:Nat} (hp:Num.Prime p) (h0:0<k) (h1:k<p):p∣ch p k:=by
 obtain ⟨q,rfl⟩:∃ q,p=q+1:=⟨p-1,by omega⟩
 obtain ⟨j,rfl⟩:∃ j,k=j+1:=⟨k-1,by omega⟩
 have h:=W_ q j
 have hd:q+1∣(j+1)*ch (q+1) (j+1):=⟨_,h⟩
 rcases hp.dvd_mul hd with e | e
 ·exact absurd (Nat.le_of_dvd (by omega) e) (by omega)
 ·exact e
section
variable {F:Type} [CR F]
def bE (x y:F):Nat→(Nat→Nat)→F
 | 0,f=>Bg (f 0)
 | n+1,f=>Bg (f 0)*pw y (n+1)+x*bE x y n fun k=>f (k+1)
theorem I1 (x:F) (n:Nat):pw x (n+1)=pw x n*x:=rfl
theorem AOI:(Bg 0:F)=0:=rfl
theorem AAM (x y:F):∀ (n:Nat) (d f:Nat→Nat),(∀ k,d (k+1)=f k)→f (n+1)=0→bE x y (n+1) (fun k=>d k+f k)=Bg (d 0)*pw y (n+1)+(x+y)*bE x y n f
 | 0,d,f,h1,h2=>by
  simp only [bE,pw]
  rw [h1 0,h2,KD,Nat.add_zero]
  exact ring [Bg (d 0),Bg (f 0),x,y] (by kernel_rfl)
 | n+1,d,f,h1,h2=>by
  have ih:=AAM x y n (fun k=>d (k+1)) (fun k=>f (k+1)) (fun k=>h1 (k+1)) h2
  simp only [bE] at ih ⊢
  rw [ih,h1 0,KD,I1 y (n+1)]
  generalize pw y (n+1)=Y
  exact ring [Bg (d 0),Bg (f 0),x,y,Y,bE x y n fun k=>f (k+1)] (by kernel_rfl)
theorem AAN (x y:F):∀ n,pw (x+y) n=bE x y n (ch n)
 | 0=>(zero_add 1).symm
 | n+1=>by
  have h:=AAM x y n (fun k=>match k with | 0=>0 | k+1=>ch n k) (ch n) (fun _=>rfl) (W9 (Nat.lt_succ_self n))
  have e:(fun k=>(match k with | 0=>0 | k+1=>ch n k)+ch n k)=ch (n+1):=by
   funext k
   cases k with
   | zero=>cases n<;>rfl
   | succ k=>rfl
  rw [e] at h
  rw [h,I1,AAN x y n,AOI,zero_mul,zero_add,mul_comm]
theorem AAO (x y:F):∀ (n:Nat) (f:Nat→Nat),(∀ k,k<n→(Bg (f k):F)=0)→bE x y n f=Bg (f n)*pw x n
 | 0,f,_=>(mul_one _).symm
 | n+1,f,h=>by
  simp only [bE]
  rw [AAO x y n _ fun k hk=>h (k+1) (by omega),h 0 (by omega),I1 x n,zero_mul,zero_add]
  generalize pw x n=X
  exact ring [Bg (f (n+1)),x,X] (by kernel_rfl)
theorem AOJ {p m:Nat} (h0:(Bg p:F)=0) (h:p∣m):(Bg m:F)=0:=by
 obtain ⟨c,rfl⟩:=h
 rw [Tn,h0,zero_mul]
theorem AOK {p:Nat} (hp:Num.Prime p) (h0:(Bg p:F)=0) (x y:F):pw (x+y) p=pw x p+pw y p:=by
 have h2:=hp.1
 obtain ⟨q,rfl⟩:∃ q,p=q+1:=⟨p-1,by omega⟩
 rw [AAN]
 simp only [bE]
 rw [AAO x y q _ fun k hk=>AOJ h0 (AOH hp (by omega) (by omega)),AAL,I1 x q]
 have e:(Bg (ch (q+1) 0):F)=1:=by show (0:F)+1=1;exact zero_add 1
 have e1:(Bg 1:F)=1:=zero_add 1
 rw [e,e1]
 generalize pw y (q+1)=Y
 generalize pw x q=X
 exact ring [x,X,Y] (by kernel_rfl)
end
end Go.Proofs.YtjlcdlekmpjjnaaGreat.Rg
namespace Go.Proofs.YtjlcdlekmpjjnaaGreat
open Ex Num Rg
set_option maxRecDepth 100000
set_option maxHeartbeats 4000000
class Sh (α:Type) where
 R:Type
 n:Nat
 av:R→List Ch
 rd:List Ch→Option R
 mo:R→α
 en:α→R
 mo_en:∀ x,mo (en x)=x
 rd_ok:∀ {β β':Env} {cs:List Ch} {l:List Value} {r:R},rd cs=some r→AN β cs l→AN β' (av r) l
open Sh (R av rd mo en mo_en)
def CB {α:Type}:List α→List α→List α
 | [],l=>l
 | x::r,l=>x::CB r l
theorem AAP {α:Type}:∀ a b:List α,CB a b=a++b
 | [],_=>rfl
 | x::r,b=>by simp [CB,AAP r b]
def N5 {A B:Type} (n:Nat) (f:List Ch→Option A) (g:List Ch→Option B) (cs:List Ch):Option (A×B):=match E4 cs n with
 | some (a,r)=>match f a,g r with
  | some x,some y=>some (x,y)
  | _,_=>none
 | none=>none
theorem T7 {A B:Type} {n:Nat} {f:List Ch→Option A} {g:List Ch→Option B} {p:A→List Ch} {q:B→List Ch} {β β':Env} (hf:∀ {cs l r},f cs=some r→AN β cs l→AN β' (p r) l) (hg:∀ {cs l r},g cs=some r→AN β cs l→AN β' (q r) l)
  {cs:List Ch} {l:List Value} {r:A×B} (h:N5 n f g cs=some r) (hl:AN β cs l):AN β' (CB (p r.1) (q r.2)) l:=by
 unfold N5 at h
 split at h
 case h_2=>cases h
 rename_i a t h1
 split at h
 case h_2=>cases h
 rename_i x y h2 h3
 injection h with h;subst h
 obtain ⟨q1,q2,_⟩:=HN h1 hl
 rw [AAP,← List.take_append_drop n l]
 exact ND (hf h2 q1) (hg h3 q2)
instance shFP:Sh FP where
 R:=Nat
 n:=6
 av x:=[.num 6 x]
 rd:=CP 6
 mo:=tf
 en:=Fin.val
 mo_en:=B_
 rd_ok:=EO
def g5 (cs:List Ch):Option Bool:=match cs with
 | [.b x]=>some x
 | [.v (.bool x)]=>some x
 | _=>none
instance shB:Sh Bool where
 R:=Bool
 n:=1
 av x:=[.v (.bool x)]
 rd:=g5
 mo x:=x
 en x:=x
 mo_en _:=rfl
 rd_ok {β β' cs l r} h hl:=by
  unfold g5 at h
  split at h
  ·injection h with h;subst h
   obtain ⟨l1,l2,h1,h2,h3⟩:=hl
   exact ⟨l1,l2,⟨h1,rfl,trivial⟩,h2,h3⟩
  ·injection h with h;subst h
   obtain ⟨l1,l2,h1,h2,h3⟩:=hl
   exact ⟨l1,l2,h1,h2,h3⟩
  ·cases h
section
variable {F:Type} [Sh F]
instance shQ [CR F] {β:F}:Sh (Qx β) where
 R:=R F×R F
 n:=Sh.n F+Sh.n F
 av r:=CB (av r.1) (av r.2)
 rd:=N5 (Sh.n F) rd rd
 mo r:=⟨mo r.1,mo r.2⟩
 en x:=(en x.a,en x.b)
 mo_en _:=Qx.ext (mo_en _) (mo_en _)
 rd_ok:=T7 Sh.rd_ok Sh.rd_ok
instance shJ:Sh (J F) where
 R:=R F×R F×R F
 n:=Sh.n F+(Sh.n F+Sh.n F)
 av r:=CB (av r.1) (CB (av r.2.1) (av r.2.2))
 rd:=N5 (Sh.n F) rd (N5 (Sh.n F) rd rd)
 mo r:=⟨mo r.1,mo r.2.1,mo r.2.2⟩
 en x:=(en x.x,en x.y,en x.z)
 mo_en x:=by cases x;simp only [mo_en]
 rd_ok:=T7 (q:=fun r:R F×R F=>CB (av r.1) (av r.2)) Sh.rd_ok (T7 Sh.rd_ok Sh.rd_ok)
def AAQ (x y:F) (i:Bool):Pt F:=match i with
 | true=>.inf
 | false=>.pt x y
def I2 [Zero F]:Pt F→F
 | .inf=>0
 | .pt x _=>x
def D1 [Zero F]:Pt F→F
 | .inf=>0
 | .pt _ y=>y
def B7:Pt F→Bool
 | .inf=>true
 | .pt _ _=>false
instance shP [Zero F]:Sh (Pt F) where
 R:=R F×R F×Bool
 n:=Sh.n F+(Sh.n F+1)
 av r:=CB (av r.1) (CB (av r.2.1) (av (α:=Bool) r.2.2))
 rd:=N5 (Sh.n F) rd (N5 (Sh.n F) rd g5)
 mo r:=AAQ (mo r.1) (mo r.2.1) r.2.2
 en p:=(en (I2 p),en (D1 p),B7 p)
 mo_en p:=by cases p<;>simp only [I2,D1,B7,AAQ,mo_en]
 rd_ok:=T7 (q:=fun r:R F×Bool=>CB (av r.1) (av (α:=Bool) r.2)) Sh.rd_ok (T7 Sh.rd_ok shB.rd_ok)
end
def va (α:Type) [Sh α] (r:R α):AV:=.val true (av r)
def ve {α:Type} [Sh α] (x:α):AV:=va α (en x)
section
variable (α β γ:Type) [Sh α] [Sh β] [Sh γ]
def ad [Add α] (r s:R α):R α:=en (mo r+mo s:α)
def su [Sub α] (r s:R α):R α:=en (mo r-mo s:α)
def mu [Mul α] (r s:R α):R α:=en (mo r*mo s:α)
def ng [Neg α] (r:R α):R α:=en (- mo r:α)
def iv [FD α] (r:R α):R α:=en (FD.inv (mo r:α))
def re (r:R α):R α:=en (mo r:α)
def Bz (g:R α→AV):List AV→Option AV
 | [.val true a]=>match rd a with
  | some r=>some (g r)
  | none=>none
 | _=>none
def Dm (g:R α→R β→AV):List AV→Option AV
 | [.val true a,.val true b]=>match rd a,rd b with
  | some r,some s=>some (g r s)
  | _,_=>none
 | _=>none
end
section
variable {α β γ:Type} [Sh α] [Sh β] [Sh γ] {P:Program} {f:FuncId}
theorem GC {b b':Env} {a:List Ch} {r:R α} {u:Value} (h:rd a=some r) (hr:AP b (.val true a) u):AP b' (va α r) u:=by
 obtain ⟨l,hl,rfl⟩:=hr
 exact ⟨l,Sh.rd_ok h hl,rfl⟩
theorem D2 {args:List AV} {cs:List Ch} {r:R α} (h:AU P f args (.val true cs)) (hc:rd cs=some r):AU P f args (va α r):=C7 h fun _ hu=>GC hc hu
theorem CC {g:R α→AV} (h:∀ r,AU P f [va α r] (g r)):∀ args v,Bz α g args=some v→AU P f args v:=by
 intro args v hs us w ha
 unfold Bz at hs
 split at hs
 case h_2=>cases hs
 split at hs
 case h_2=>cases hs
 rename_i r h1
 injection hs with hs;subst hs
 obtain ⟨u1,us1,r1,ha,rfl⟩:=ha
 exact h r _ w ⟨u1,_,GC h1 r1,ha,rfl⟩
theorem EG {g:R α→R β→AV} (h:∀ r s,AU P f [va α r,va β s] (g r s)):∀ args v,Dm α β g args=some v→AU P f args v:=by
 intro args v hs us w ha
 unfold Dm at hs
 split at hs
 case h_2=>cases hs
 split at hs
 case h_2=>cases hs
 rename_i r s h1 h2
 injection hs with hs;subst hs
 obtain ⟨u1,us1,r1,⟨u2,us2,r2,ha,rfl⟩,rfl⟩:=ha
 exact h r s _ w ⟨u1,_,GC h1 r1,⟨u2,_,GC h2 r2,ha,rfl⟩,rfl⟩
end
end Go.Proofs.YtjlcdlekmpjjnaaGreat
namespace Go.Proofs.YtjlcdlekmpjjnaaGreat
open Ex Num Rg
open Sh (R av rd mo en mo_en)
set_option maxRecDepth 100000
set_option maxHeartbeats 4000000
theorem adN (x y:Nat):DL x y=ad FP x y:=ME (WG x y) (HY x y)
theorem suN (x y:Nat):DW x y=su FP x y:=ME (GB x y) (GA x y)
theorem muN (x y:Nat):Ag x y=mu FP x y:=ME (J6 x y) (Bu x y)
theorem ngN (x:Nat):DM x=ng FP x:=ME (dD x) (eF x)
theorem AOL (x:Nat):tf (BM x)=KL (tf x):=by
 have e:BM x=BM (x % pN):=by
  unfold BM
  rw [IC,IC]
  exact Nat.pow_mod x (pN-2) pN
 rw [e]
 unfold KL
 exact congrArg (fun y=>tf (BM y)) (show x % pN=(tf x).val from rfl)
theorem AOM (x:R FP):iv FP x=(KL (tf x)).val:=rfl
theorem ivN (x:Nat):BM x=iv FP x:=(ME (vS x) (AOL x)).trans (AOM x).symm
theorem AON (x:Nat):Vu [AY x]=some (AY (x % pN)):=by kernel_rfl
theorem AOO (r:R FP):AU Tryz.prog 131 [va FP r] (va FP (re FP r)):=s7 _ _ (AON r)
noncomputable def SH1:List (FuncId×ASpec):=(131,Aj (Bz FP fun r=>va FP (re FP r)))::(85,Aj (Dm FP FP fun r s=>va FP (ad FP r s)))::(133,Aj (Dm FP FP fun r s=>va FP (su FP r s)))::(87,Aj (Bz FP fun r=>va FP (ng FP r)))::(86,Aj (Dm FP FP fun r s=>va FP (mu FP r s)))::(134,Aj (Bz FP fun r=>va FP (iv FP r)))::(242,Aj (E9 fun r=>va FP (re FP r)))::(204,Aj (Dm FP FP fun r s=>va FP (ad FP r s)))::(207,Aj (Dm FP FP fun r s=>va FP (su FP r s)))::(205,Aj (Bz FP fun r=>va FP (ng FP r)))::(190,Aj (Dm FP FP fun r s=>va FP (mu FP r s)))::(189,Aj (Bz FP fun r=>va FP (iv FP r)))::SIe
theorem g6:AX Tryz.prog SH1:=⟨Ak Tryz.func131 (by kernel_rfl) (by kernel_rfl) (CC AOO),Ak Tryz.func85 (by kernel_rfl) (by kernel_rfl) (EG fun r s=>by rw [← adN];exact s9 r s),Ak Tryz.func133 (by kernel_rfl) (by kernel_rfl) (EG fun r s=>by rw [← suN];exact tC r s),Ak Tryz.func87 (by kernel_rfl) (by kernel_rfl) (CC fun r=>by rw [← ngN];exact tA r),Ak Tryz.func86 (by kernel_rfl) (by kernel_rfl) (EG fun r s=>by rw [← muN];exact tS r s),Ak Tryz.func134 (by kernel_rfl) (by kernel_rfl) (CC fun r=>by rw [← ivN];exact vX r),Ak Tryz.func242 (by kernel_rfl) (by kernel_rfl) (F6 fun r h=>xF h),Ak Tryz.func204 (by kernel_rfl) (by kernel_rfl) (EG fun r s=>by rw [← adN];exact xL r s),Ak Tryz.func207 (by kernel_rfl) (by kernel_rfl) (EG fun r s=>by rw [← suN];exact xO r s),Ak Tryz.func205 (by kernel_rfl) (by kernel_rfl) (CC fun r=>by rw [← ngN];exact xM r),Ak Tryz.func190 (by kernel_rfl) (by kernel_rfl) (EG fun r s=>by rw [← muN];exact xV r s),Ak Tryz.func189 (by kernel_rfl) (by kernel_rfl) (CC fun r=>by rw [← ivN];exact yI r),AAK⟩
theorem AAW {k m:Nat} (hk:(pN-1) / k*k=pN-1) (hlt:Nat.blt ((pN-1) / k) RR=true) (h0:0<m) (hc:Nat.beq (L3 pN m 384 ((pN-1) / k)) 1=false) (hk0:0<k) (x:Nat):x^k % pN≠m:=by
 intro h
 have hnd:¬ pN∣x:=fun hd=>by
  have:x^k % pN=0:=by
   obtain ⟨c,hcc⟩:=hd
   obtain ⟨j,rfl⟩:∃ j,k=j+1:=⟨k-1,by omega⟩
   rw [hcc,Nat.pow_succ,Nat.mul_comm,Nat.mul_assoc,Nat.mul_mod_right]
  omega
 have hf:=Nn pN_prime hnd
 rw [← hk,Nat.mul_comm,Nat.pow_mul,Nat.pow_mod,h,← dJ pN 384 m ((pN-1) / k) (by rw [uB];exact A8.1 hlt)] at hf
 rw [hf] at hc
 cases hc
theorem AOP {a b:Nat} (h:Nat.beq (a % pN) (b % pN)=true):tf a=tf b:=Pc.2 (An.1 h)
theorem AOQ {m:Nat} (h:∀ x:Nat,x^2 % pN≠m) (hm:m<pN) (x:FP):x*x≠tf m:=fun e=>by
 refine h x.val ?_
 have:tf (x.val^2)=tf m:=by rw [Nat.pow_two,L9,B_];exact e
 rw [Pc,Nat.mod_eq_of_lt hm] at this
 exact this
theorem AOR {m:Nat} (h:∀ x:Nat,x^3 % pN≠m) (hm:m<pN) (x:FP):x*x*x≠tf m:=fun e=>by
 refine h x.val ?_
 have:tf (x.val^3)=tf m:=by rw [Nat.pow_succ,Nat.pow_two,L9,L9,B_];exact e
 rw [Pc,Nat.mod_eq_of_lt hm] at this
 exact this
theorem k2:(pN-1) / 2*2=pN-1:=by kernel_rfl
theorem AOS:Nat.blt ((pN-1) / 2) RR=true:=by kernel_rfl
theorem AOT:Nat.blt (pN-1) pN=true:=by kernel_rfl
theorem AOU:Nat.blt 0 (pN-1)=true:=by kernel_rfl
theorem AOV:tf (pN-1)=-1:=by
 have h:tf (pN-1)+1=0:=by rw [← En,← F',WH];kernel_rfl
 exact II (by rw [Rg.add_comm];exact h)
theorem AOW (x:FP):x*x≠-1:=by
 rw [← AOV]
 exact AOQ (AAW k2 AOS (A8.1 AOU) (by kernel_rfl) (by decide)) (A8.1 AOT) x
theorem AOX (x:FP):x*x*x≠tf 32:=AOR (AAW p3 zJ (by decide) (by kernel_rfl) (by decide)) (by decide) x
abbrev FP2:Type:=Qx (-1:FP)
noncomputable instance fdFP2:FD FP2:=fdQ AOW
noncomputable def xi:FP2:=⟨1,1⟩
noncomputable def I3:FP2:=⟨DG,DG⟩
theorem AOY:DG*DG - -1*(DG*DG)=tf 32:=by
 have e:DG*DG=tf 16:=(L9 4 4).symm
 have e2:tf 16+tf 16=tf 32:=(F' 16 16).symm
 rw [e,← e2]
 exact ring [tf 16] (by kernel_rfl)
noncomputable def C2:Cv FP2 where
 b:=I3
 two:=fun h=>C1.two (by
  have:=congrArg Qx.a h
  exact this)
 no2:=fun x y h hy=>by
  subst hy
  have h1:x*x*x=-I3:=II (by rw [Rg.add_comm,← h];exact mul_zero 0)
  refine AOX x.nrm ?_
  rw [← Qx.nrm_mul,← Qx.nrm_mul,h1,← AOY]
  show -DG*-DG - -1*(-DG*-DG)=_
  exact ring [DG] (by kernel_rfl)
theorem AAX:∀ n,(Bg n:FP)=tf n
 | 0=>tf_zero.symm
 | n+1=>by rw [F',En,← AAX n];rfl
theorem AOZ:(Bg pN:FP)=0:=by rw [AAX];exact dQ
noncomputable def FV (x:FP):Bool:=DT x.val
noncomputable def EV (x:FP):FP:=tf (De x.val)
def KW (x:FP):Bool:=Nat.beq (x.val % 2) 1
theorem XA {x:FP} (h:FV x=true):EV x*EV x=x:=by
 obtain ⟨h1,_,_⟩:=dV h
 unfold EV
 rw [← Bu,h1,L8,B_]
theorem T8 {x y:FP} (h:y*y=x):FV x=true:=by
 unfold FV
 by_cases h0:x.val % pN=0
 ·exact AIX h0
 ·refine (AIW h0).2 ?_
  have hx:x.val=y.val*y.val % pN:=by rw [← h];rfl
  unfold dU
  rw [hx,← Nat.pow_mod,← Nat.pow_two,← Nat.pow_mul,Nat.mul_comm 2,k2]
  refine Nn pN_prime fun hd=>h0 ?_
  obtain ⟨c,hc⟩:=hd
  rw [hx,hc,Nat.mod_mod,Nat.mul_assoc,Nat.mul_mod_right]
theorem XB {x y:FP} (h:x*x=y*y):x=y∨x=-y:=by
 have e:(x-y)*(x+y)=0:=by
  have:(x-y)*(x+y)=x*x-y*y:=ring [x,y] (by kernel_rfl)
  rw [this,h,sub_self]
 rcases Wq e with e | e
 ·exact .inl (AZ.1 e)
 ·exact .inr (II (by rw [Rg.add_comm];exact e))
theorem AOa {x:FP} (h:x≠0):(-x).val=pN-x.val:=by
 have hx:x.val≠0:=fun e=>h (Ws.1 e)
 have h1:tf (pN-x.val)=-x:=by
  have:=eF x.val
  rw [B_] at this
  unfold DM at this
  rw [Nat.mod_eq_of_lt x.isLt,L8] at this
  exact this
 rw [← h1,KK (by have:=x.isLt;omega)]
theorem AAY {x:FP} (h:x≠0):KW (-x)=!KW x:=by
 have hx:x.val≠0:=fun e=>h (Ws.1 e)
 unfold KW
 rw [AOa h]
 have:=x.isLt
 have ho:=V4
 have:(pN-x.val) % 2=(1+x.val % 2) % 2:=by omega
 rw [this]
 rcases Nat.mod_two_eq_zero_or_one x.val with e | e<;>rw [e]<;>rfl
noncomputable def Dg (a:FP2):Bool:=if a.a=0 then KW a.b else KW a.a
theorem g7 {x:FP}:-x=0↔x=0:=⟨fun h=>by rw [← neg_neg x,h,Pn],fun h=>by rw [h,Pn]⟩
theorem g8 {a:FP2} (h:a≠0):Dg (-a)=!Dg a:=by
 unfold Dg
 show (if -a.a=0 then KW (-a.b) else KW (-a.a))=_
 by_cases h1:a.a=0
 ·rw [if_pos (g7.2 h1),if_pos h1]
  exact AAY fun e=>h (Qx.ext h1 e)
 ·rw [if_neg fun e=>h1 (g7.1 e),if_neg h1]
  exact AAY h1
theorem AOb {x y:FP2} (h:x*x=y*y):x=y∨x=-y:=by
 have e:(x-y)*(x+y)=0:=by
  have:(x-y)*(x+y)=x*x-y*y:=ring [x,y] (by kernel_rfl)
  rw [this,h,sub_self]
 rcases Wq e with e | e
 ·exact .inl (AZ.1 e)
 ·exact .inr (II (by rw [Rg.add_comm];exact e))
noncomputable def DX (a:FP2):Bool:=@decide (∃ s:FP2,s*s=a) (Classical.propDecidable _)
theorem QD {a:FP2}:DX a=true↔∃ s:FP2,s*s=a:=@decide_eq_true_iff _ (Classical.propDecidable _)
theorem XC (a:FP2):∃ x:FP2,(DX a=true→x*x=a∧Dg x=false)∧(DX a=false→x=0):=by
 cases h:DX a with
 | false=>exact ⟨0,(fun e=>by cases e),fun _=>rfl⟩
 | true =>
  obtain ⟨s,hs⟩:=QD.1 h
  cases hg:Dg s with
  | false=>exact ⟨s,fun _=>⟨hs,hg⟩,(fun e=>by cases e)⟩
  | true =>
   refine ⟨-s,fun _=>⟨?_,?_⟩,(fun e=>by cases e)⟩
   ·rw [← hs];exact ring [s] (by kernel_rfl)
   ·rw [g8,hg];rfl
    intro e
    rw [e] at hg
    have:Dg 0=false:=if_pos rfl
    rw [this] at hg;cases hg
noncomputable def Et (a:FP2):FP2:=Classical.choose (XC a)
theorem AOc {a:FP2} (h:DX a=true):Et a*Et a=a:=((Classical.choose_spec (XC a)).1 h).1
theorem AOd {a:FP2} (h:DX a=true):Dg (Et a)=false:=((Classical.choose_spec (XC a)).1 h).2
theorem AOe {a:FP2} (h:DX a=false):Et a=0:=(Classical.choose_spec (XC a)).2 h
theorem AOf {a s:FP2} (h:s*s=a) (hg:Dg s=false):Et a=s:=by
 have hi:=QD.2 ⟨s,h⟩
 rcases AOb ((AOc hi).trans h.symm) with e | e
 ·exact e
 ·by_cases h0:s=0
  ·rw [e,h0,Pn]
  ·have:=AOd hi
   rw [e,g8 h0,hg] at this
   cases this
theorem AAZ:∀ (x:FP) (n:Nat),(pw x n).val=x.val^n % pN
 | x,0=>(Nat.mod_eq_of_lt (by decide:1<pN)).symm
 | x,n+1=>by
  show ((pw x n).val*x.val) % pN=_
  rw [AAZ x n,Nat.mod_mul_mod,← Nat.pow_succ]
theorem AAa (x:FP):pw x pN=x:=by
 rw [Fin.ext_iff,AAZ,← IC,show Dx x.val pN=x.val % pN from ?_]
 ·exact Nat.mod_eq_of_lt x.isLt
 ·rw [IC]
  have e:pN=(pN-1)+1:=by have:=uO;omega
  by_cases h:x.val % pN=0
  ·rw [Nat.pow_mod,h,Nat.zero_pow CQ,Nat.zero_mod]
  ·have hf:=Nn pN_prime (a:=x.val) fun hd=>h (Nat.mod_eq_zero_of_dvd hd)
   rw [show x.val^pN=x.val^(pN-1)*x.val by rw [← Nat.pow_succ,Nat.succ_eq_add_one,← e],Nat.mul_mod,hf,Nat.one_mul,Nat.mod_mod]
def I4 (x:FP):FP2:=⟨x,0⟩
theorem AOg (x y:FP):I4 (x*y)=I4 x*I4 y:=Qx.ext (ring [x,y] (a:=x*y) (b:=x*y+-1*(0*0)) (by kernel_rfl)) (ring [x,y] (a:=0) (b:=x*0+0*y) (by kernel_rfl))
theorem g9 (x:FP):∀ n,pw (I4 x) n=I4 (pw x n)
 | 0=>rfl
 | n+1=>by simp only [pw];rw [g9 x n,← AOg]
theorem AAb:∀ n,(Bg n:FP2)=I4 (Bg n)
 | 0=>rfl
 | n+1=>by
  show Bg n+1=_
  rw [AAb n]
  exact Qx.ext rfl (add_zero _)
theorem AOh:(Bg pN:FP2)=0:=by rw [AAb,AOZ];rfl
def uu:FP2:=⟨0,1⟩
theorem AAc:uu*uu=-1:=Qx.ext (ring (F:=FP) [] (a:=0*0+-1*(1*1)) (b:=-1) (by kernel_rfl)) (ring (F:=FP) [] (a:=0*1+1*0) (b:=-0) (by kernel_rfl))
theorem AOi:pw uu pN=-uu:=by
 have e:pN=2*(2*((pN-3) / 4)+1)+1:=by kernel_rfl
 refine (congrArg (pw uu) e).trans ?_
 rw [I1,Wg,show pw uu 2=-1 from by show 1*uu*uu=-1;rw [Rg.one_mul,AAc],I1,Wg,show pw (-1:FP2) 2=1 from ring (F:=FP2) [] (a:=1*-1*-1) (by kernel_rfl)]
 have one:∀ n,pw (1:FP2) n=1:=by
  intro n
  induction n with
  | zero=>rfl
  | succ n ih=>rw [I1,ih,Rg.one_mul]
 rw [one]
 exact ring [uu] (by kernel_rfl)
theorem AAd (a:FP2):pw a pN=Qx.conj a:=by
 have e:a=I4 a.a+I4 a.b*uu:=Qx.ext (ring [a.a,a.b] (a:=a.a) (b:=a.a+(a.b*0+-1*(0*1))) (by kernel_rfl)) (ring [a.a,a.b] (a:=a.b) (b:=0+(a.b*1+0*0)) (by kernel_rfl))
 have h:=AOK pN_prime AOh (I4 a.a) (I4 a.b*uu)
 rw [← e,Rg.pw_mul,g9,g9,AAa,AAa,AOi] at h
 rw [h]
 exact Qx.ext (ring [a.a,a.b] (a:=a.a+(a.b*-0+-1*(0*-1))) (b:=a.a) (by kernel_rfl)) (ring [a.a,a.b] (a:=0+(a.b*-1+0*-0)) (b:=-a.b) (by kernel_rfl))
theorem AOj:Dg 0=false:=if_pos rfl
theorem AAe {a s:FP2} (h:s*s=a) (hg:Dg s=false):s=Et a∧DX a=true:=⟨(AOf h hg).symm,QD.2 ⟨s,h⟩⟩
noncomputable def I5 (x:FP2):FP2:=if Dg x=true then -x else x
theorem AAf (x:FP2):Dg (I5 x)=false:=by
 unfold I5
 by_cases h:Dg x=true
 ·rw [if_pos h,g8 (fun e=>by rw [e,AOj] at h;cases h),h];rfl
 ·rw [if_neg h];cases hq:Dg x with | false=>rfl | true=>exact absurd hq h
theorem hJ (x:FP2):I5 x*I5 x=x*x:=by
 unfold I5
 split
 ·exact ring [x] (by kernel_rfl)
 ·rfl
noncomputable def CK (h:FP) (a:FP2) (n:FP):FP:=EV ((a.a+n)*h)
noncomputable def I6 (h:FP) (a:FP2) (n:FP):FP:=if CK h a n=0 then EV (-a.a) else a.b*h*FD.inv (CK h a n)
noncomputable def HB (h:FP) (a:FP2) (n:FP):FP2:=I5 ⟨CK h a n,I6 h a n⟩
noncomputable def EW (h:FP) (a:FP2) (n:FP):Bool:=(if CK h a n=0 then FV (-a.a) else FV ((a.a+n)*h))&&decide (HB h a n*HB h a n=a)
theorem AOk {h:FP} {a:FP2} {n:FP} (ht:EW h a n=true):HB h a n=Et a∧DX a=true:=by
 unfold EW at ht
 exact AAe (of_decide_eq_true (Bool.and_eq_true_iff.1 ht).2) (AAf _)
theorem AOl {x:FP} (h:x*x=0):x=0:=(Wq h).elim id id
theorem AAg {h:FP} (hh:h+h=1) {a s:FP2} (hs:s*s=a) {n:FP} (hn:n=s.a*s.a+s.b*s.b):EW h a n=true:=by
 have ea:a.a=s.a*s.a-s.b*s.b:=by rw [← hs];exact ring [s.a,s.b] (a:=s.a*s.a+-1*(s.b*s.b)) (by kernel_rfl)
 have eb:a.b=s.a*s.b+s.b*s.a:=by rw [← hs];rfl
 have h1:(a.a+n)*h=s.a*s.a:=by
  rw [ea,hn]
  exact (ring [s.a,s.b,h] (a:=(s.a*s.a-s.b*s.b+(s.a*s.a+s.b*s.b))*h) (b:=s.a*s.a*(h+h)) (by kernel_rfl)).trans (by rw [hh,Rg.mul_one])
 have hi:FV ((a.a+n)*h)=true:=T8 h1.symm
 have hx:=XA hi
 rw [h1] at hx
 have hX:CK h a n*CK h a n=s.a*s.a:=by unfold CK;rw [h1];exact hx
 have fin:∀ y,(CK h a n=s.a∧y=s.b)∨(CK h a n=-s.a∧y=-s.b)∨(CK h a n=s.a∧s.a=0∧y=-s.b)→(⟨CK h a n,y⟩:FP2)*⟨CK h a n,y⟩=a:=by
  intro y hy
  rcases hy with ⟨e1,e2⟩ | ⟨e1,e2⟩ | ⟨e1,e0,e2⟩
  ·rw [e1,e2];exact hs
  ·rw [e1,e2]
   have e:(⟨-s.a,-s.b⟩:FP2)=-s:=rfl
   rw [e,← hs];exact ring [s] (by kernel_rfl)
  ·rw [e1,e2]
   have e:(⟨s.a,-s.b⟩:FP2)=-s:=Qx.ext (by show s.a=-s.a;rw [e0,Pn]) rfl
   rw [e,← hs];exact ring [s] (by kernel_rfl)
 unfold EW
 by_cases h0:CK h a n=0
 ·have s0:s.a=0:=by
   rw [h0,mul_zero] at hX
   exact AOl hX.symm
  have e2:s.b*s.b=-a.a:=by rw [ea,s0];exact ring [s.b] (by kernel_rfl)
  rw [if_pos h0,T8 e2]
  refine Bool.and_eq_true_iff.2 ⟨rfl,decide_eq_true ?_⟩
  unfold HB
  rw [hJ]
  refine fin _ ?_
  unfold I6
  rw [if_pos h0]
  rcases XB ((XA (T8 e2)).trans e2.symm) with e | e
  ·exact .inl ⟨by rw [h0,s0],e⟩
  ·exact .inr (.inr ⟨by rw [h0,s0],s0,e⟩)
 ·rw [if_neg h0,hi]
  refine Bool.and_eq_true_iff.2 ⟨rfl,decide_eq_true ?_⟩
  unfold HB
  rw [hJ]
  refine fin _ ?_
  have hy:I6 h a n=s.a*s.b*FD.inv (CK h a n):=by
   unfold I6
   rw [if_neg h0,eb]
   congr 1
   exact (ring [s.a,s.b,h] (a:=(s.a*s.b+s.b*s.a)*h) (b:=s.a*s.b*(h+h)) (by kernel_rfl)).trans (by rw [hh,Rg.mul_one])
  have hv:=FD.mul_inv (CK h a n) h0
  rcases XB hX with e | e
  ·refine .inl ⟨e,?_⟩
   rw [hy]
   calc s.a*s.b*FD.inv (CK h a n)=s.b*(s.a*FD.inv (CK h a n)):=ring [s.a,s.b,FD.inv (CK h a n)] (by kernel_rfl)
    _=s.b:=by rw [← e,hv,Rg.mul_one]
  ·refine .inr (.inl ⟨e,?_⟩)
   rw [hy]
   calc s.a*s.b*FD.inv (CK h a n)=-s.b*(-s.a*FD.inv (CK h a n)):=ring [s.a,s.b,FD.inv (CK h a n)] (by kernel_rfl)
    _=-s.b:=by rw [← e,hv,Rg.mul_one]
theorem AAh {a s:FP2} (hs:s*s=a):(s.a*s.a+s.b*s.b)*(s.a*s.a+s.b*s.b)=a.a*a.a+a.b*a.b:=by
 rw [← hs]
 exact ring [s.a,s.b] (b:=(s.a*s.a+-1*(s.b*s.b))*(s.a*s.a+-1*(s.b*s.b))+(s.a*s.b+s.b*s.a)*(s.a*s.b+s.b*s.a)) (by kernel_rfl)
noncomputable def EX (a:FP2):FP:=a.a*a.a+a.b*a.b
theorem AOm {a:FP2} (h:FV (EX a)=false):DX a=false:=by
 cases hi:DX a with
 | false=>rfl
 | true =>
  obtain ⟨s,hs⟩:=QD.1 hi
  have:=T8 (AAh hs)
  unfold EX at h
  rw [this] at h;cases h
theorem AOn {h:FP} (hh:h+h=1) {a:FP2} (hi:FV (EX a)=true) (h1:EW h a (EV (EX a))=false) (h2:EW h a (-EV (EX a))=false):DX a=false:=by
 cases hq:DX a with
 | false=>rfl
 | true =>
  obtain ⟨s,hs⟩:=QD.1 hq
  rcases XB ((XA hi).trans (AAh hs).symm) with e | e
  ·rw [AAg hh hs e] at h1;cases h1
  ·rw [AAg hh hs (n:=-EV (EX a)) (by rw [e];exact neg_neg _)] at h2;cases h2
noncomputable def KX (a:FP2):FP2:=pw a ((pN-3) / 4)
noncomputable def Dh (a:FP2):FP2:=KX a*a
noncomputable def CD (a:FP2):FP2:=KX a*Dh a
noncomputable def FC (a:FP2):FP2:=if CD a=-1 then Dh a*uu else pw (1+CD a) ((pN-1) / 2)*Dh a
theorem AOo {n:Nat} (h:0<n):pw (0:FP2) n=0:=by
 obtain ⟨m,rfl⟩:∃ m,n=m+1:=⟨n-1,by omega⟩
 rw [I1,mul_zero]
theorem e4:(pN-3) / 4*4+3=pN:=by kernel_rfl
theorem e2':(pN-1) / 2*2+1=pN:=by kernel_rfl
theorem AOq:Nat.blt 0 ((pN-3) / 4)=true:=by kernel_rfl
theorem AOr {s c:FP2} (hs:s≠0) (h:c*s=Qx.conj s):c*Qx.conj c=1:=by
 have h2:Qx.conj c*Qx.conj s=s:=by
  rw [← Qx.conj_mul,h]
  exact Qx.ext rfl (neg_neg _)
 have hcs:Qx.conj s≠0:=fun e=>hs (by
  have h1:s.a=0:=congrArg Qx.a e
  have h2:-s.b=0:=congrArg Qx.b e
  exact Qx.ext h1 (g7.1 h2))
 have e:(s*Qx.conj s)*(c*Qx.conj c)=(s*Qx.conj s)*1:=by
  calc (s*Qx.conj s)*(c*Qx.conj c)=(c*s)*(Qx.conj c*Qx.conj s):=ring [s,c,Qx.conj s,Qx.conj c] (by kernel_rfl)
   _=(s*Qx.conj s)*1:=by rw [h,h2,Rg.mul_one,Rg.mul_comm]
 exact IJ (EU hs hcs) e
theorem AOs {a:FP2} (hi:DX a=true):FC a*FC a=a:=by
 obtain ⟨s,hs⟩:=QD.1 hi
 generalize hE:(pN-3) / 4=E
 have hp:E*4+3=pN:=by rw [← hE];exact e4
 by_cases h0:s=0
 ·have ha:a=0:=by rw [← hs,h0,mul_zero]
  have hb:KX a=0:=by unfold KX;rw [ha];exact AOo (A8.1 AOq)
  have hx:Dh a=0:=by unfold Dh;rw [hb,zero_mul]
  unfold FC
  rw [hx]
  split
  ·rw [zero_mul,zero_mul,ha]
  ·rw [mul_zero,mul_zero,ha]
 ·have hB:KX a=pw s (2*E):=by unfold KX;rw [hE,← hs,Wg];congr 1;show s*s=1*s*s;rw [Rg.one_mul]
  have hC:CD a*s=Qx.conj s:=by
   refine Eq.trans ?_ ((congrArg (pw s) (show 2*E+(2*E+2+1)=pN by omega)).trans (AAd s))
   rw [Tp,I1]
   unfold CD Dh
   rw [hB,← hs]
   rw [Tp,show pw s 2=s*s from by show 1*s*s=_;rw [Rg.one_mul]]
   generalize pw s (2*E)=Z
   exact ring [s,Z] (by kernel_rfl)
  have hXX:Dh a*Dh a=a*CD a:=by unfold CD Dh;exact ring [KX a,a] (by kernel_rfl)
  have hcc:=AOr h0 hC
  unfold FC
  split
  ·rename_i hc
   calc Dh a*uu*(Dh a*uu)=Dh a*Dh a*(uu*uu):=ring [Dh a,uu] (by kernel_rfl)
    _=a:=by rw [hXX,hc,AAc];exact ring [a] (by kernel_rfl)
  ·rename_i hc
   generalize hH:(pN-1) / 2=H
   have hp2:H*2+1=pN:=by rw [← hH];exact e2'
   generalize hd:pw (1+CD a) H=d
   have h1c:1+CD a≠0:=fun e=>hc (II e)
   have hdd:d*d*(1+CD a)=1+Qx.conj (CD a):=by
    have hf:=AAd (1+CD a)
    have hf':=(congrArg (pw (1+CD a)) hp2).trans hf
    rw [I1,Wg,hd] at hf'
    have e1:pw d 2=d*d:=by show 1*d*d=_;rw [Rg.one_mul]
    rw [e1] at hf'
    rw [hf']
    exact Qx.ext rfl (ring [(CD a).b] (a:=-(0+(CD a).b)) (b:=0+-(CD a).b) (by kernel_rfl))
   have key:d*d*CD a=1:=by
    refine IJ h1c ?_
    calc (1+CD a)*(d*d*CD a)=(d*d*(1+CD a))*CD a:=ring [d,CD a] (by kernel_rfl)
     _=CD a+CD a*Qx.conj (CD a):=by rw [hdd];exact ring [CD a,Qx.conj (CD a)] (by kernel_rfl)
     _=(1+CD a)*1:=by rw [hcc];exact ring [CD a] (by kernel_rfl)
   calc d*Dh a*(d*Dh a)=d*d*(Dh a*Dh a):=ring [d,Dh a] (by kernel_rfl)
    _=a*(d*d*CD a):=by rw [hXX];exact ring [d,a,CD a] (by kernel_rfl)
    _=a:=by rw [key,Rg.mul_one]
theorem AOt {a:FP2} (h:FC a*FC a=a):I5 (FC a)=Et a∧DX a=true:=AAe ((hJ _).trans h) (AAf _)
theorem AOu {a:FP2} (h:FC a*FC a≠a):DX a=false:=by
 cases hi:DX a with
 | false=>rfl
 | true=>exact absurd (AOs hi) h
def Qx.sc {F:Type} [CR F] {β:F} (x:Qx β) (k:F):Qx β:=⟨x.a*k,x.b*k⟩
noncomputable def cj (r:R FP2):R FP2:=en (Qx.conj (mo r:FP2))
noncomputable def sc (r:R FP2) (k:R FP):R FP2:=en (Qx.sc (mo r:FP2) (mo k))
noncomputable def mx (r:R FP2):R FP2:=en ((mo r:FP2)*xi)
def KH:List (TypeId×List (Option IntKind)):=(39,List.replicate 12 (some .u64))::(41,List.replicate 24 (some .u64)++[none])::(98,List.replicate 36 (some .u64))::KG
theorem BA:Jo Tryz.prog KH:=⟨⟨by kernel_rfl,by kernel_rfl,by kernel_rfl⟩,⟨by kernel_rfl,by kernel_rfl,by kernel_rfl⟩,⟨by kernel_rfl,by kernel_rfl,by kernel_rfl⟩,C0⟩
theorem AOv (r s:R FP2):(su FP (mu FP r.1 s.1) (mu FP r.2 s.2),su FP (mu FP (ad FP r.1 r.2) (ad FP s.1 s.2)) (ad FP (mu FP r.1 s.1) (mu FP r.2 s.2)))=mu FP2 r s:=by
 refine Prod.ext ?_ ?_<;>simp only [su,mu,ad,mo_en]
 ·exact congrArg (en (α:=FP)) (ring [tf r.1,tf r.2,tf s.1,tf s.2] (a:=tf r.1*tf s.1-tf r.2*tf s.2) (b:=tf r.1*tf s.1+-1*(tf r.2*tf s.2)) (by kernel_rfl))
 ·exact congrArg (en (α:=FP)) (ring [tf r.1,tf r.2,tf s.1,tf s.2] (a:=(tf r.1+tf r.2)*(tf s.1+tf s.2)-(tf r.1*tf s.1+tf r.2*tf s.2)) (b:=tf r.1*tf s.2+tf r.2*tf s.1) (by kernel_rfl))
theorem AOw (r s:R FP2):(su FP (mu FP r.1 s.1) (mu FP r.2 s.2),ad FP (mu FP r.1 s.2) (mu FP r.2 s.1))=mu FP2 r s:=by
 refine Prod.ext ?_ ?_<;>simp only [su,mu,ad,mo_en]
 ·exact congrArg (en (α:=FP)) (ring [tf r.1,tf r.2,tf s.1,tf s.2] (a:=tf r.1*tf s.1-tf r.2*tf s.2) (b:=tf r.1*tf s.1+-1*(tf r.2*tf s.2)) (by kernel_rfl))
 ·rfl
theorem AOx (x:FP2):x.nrm=x.a*x.a+x.b*x.b:=ring [x.a,x.b] (a:=x.a*x.a - -1*(x.b*x.b)) (by kernel_rfl)
theorem AOy (r:R FP2):sc (cj r) (iv FP (ad FP (mu FP r.1 r.1) (mu FP r.2 r.2)))=iv FP2 r:=by
 simp only [sc,cj,iv,mu,ad,mo_en]
 have e:=AOx (mo r:FP2)
 show en (Qx.sc (Qx.conj (mo r:FP2)) (FD.inv ((mo r:FP2).a*(mo r:FP2).a+(mo r:FP2).b*(mo r:FP2).b)))=en (gA (mo r:FP2))
 rw [← e];rfl
theorem AOz (r:R FP2):sc (cj r) (iv FP (mu FP2 r (cj r)).1)=iv FP2 r:=by
 simp only [sc,cj,iv,mu,mo_en,Qx.mul_conj]
 show en (Qx.sc (Qx.conj (mo r:FP2)) (FD.inv (mo (en (mo r:FP2).nrm):FP)))=en (gA (mo r:FP2))
 rw [mo_en];rfl
noncomputable abbrev oH1:Orc:=AH SH1 KH
theorem HC:OrcOk Tryz.prog oH1:=AK g6 BA
section
variable (r s:R FP2) (k:R FP)
theorem AO0:AR Tryz.prog oH1 Tryz.f135 [va FP2 r] [] 300=some ([],va FP2 (re FP2 r)):=by kernel_rfl
theorem AO1:AR Tryz.prog oH1 Tryz.f89 [va FP2 r,va FP2 s] [] 300=some ([],va FP2 (ad FP2 r s)):=by kernel_rfl
theorem AO2:AR Tryz.prog oH1 Tryz.f137 [va FP2 r,va FP2 s] [] 300=some ([],va FP2 (su FP2 r s)):=by kernel_rfl
theorem AO3:AR Tryz.prog oH1 Tryz.f91 [va FP2 r] [] 300=some ([],va FP2 (ng FP2 r)):=by kernel_rfl
theorem AO4:AR Tryz.prog oH1 Tryz.f216 [va FP2 r] [] 300=some ([],va FP2 (cj r)):=by kernel_rfl
theorem AO5:AR Tryz.prog oH1 Tryz.f215 [va FP2 r,va FP k] [] 300=some ([],va FP2 (sc r k)):=by kernel_rfl
theorem AO6:AR Tryz.prog oH1 Tryz.f304 [va FP2 r] [] 300=some ([],va FP2 (re FP2 r)):=by kernel_rfl
theorem AO7:AR Tryz.prog oH1 Tryz.f260 [va FP2 r,va FP2 s] [] 300=some ([],va FP2 (ad FP2 r s)):=by kernel_rfl
theorem AO8:AR Tryz.prog oH1 Tryz.f261 [va FP2 r] [] 300=some ([],va FP2 (ng FP2 r)):=by kernel_rfl
theorem AO9:AR Tryz.prog oH1 Tryz.f306 [va FP2 r] [] 300=some ([],va FP2 (cj r)):=by kernel_rfl
theorem AO_:AR Tryz.prog oH1 Tryz.f307 [va FP2 r,va FP k] [] 300=some ([],va FP2 (sc r k)):=by kernel_rfl
theorem AO':AR Tryz.prog oH1 Tryz.f256 [va FP2 r,va FP2 s] [] 300=some ([],va FP2 (su FP (mu FP r.1 s.1) (mu FP r.2 s.2),ad FP (mu FP r.1 s.2) (mu FP r.2 s.1))):=by kernel_rfl
noncomputable abbrev AAi:Orc:=AH ((156,BY Tryz.prog oH1 Tryz.f156 300)::SH1) KH
theorem APA:OrcOk Tryz.prog AAi:=AK ⟨Bj HC AB Tryz.func156 (by kernel_rfl) (by kernel_rfl) 300,g6⟩ BA
theorem APB:AR Tryz.prog AAi Tryz.f90 [va FP2 r,va FP2 s] [] 300=some ([],va FP2 (su FP (mu FP r.1 s.1) (mu FP r.2 s.2),su FP (mu FP (ad FP r.1 r.2) (ad FP s.1 s.2)) (ad FP (mu FP r.1 s.1) (mu FP r.2 s.2)))):=by kernel_rfl
end
noncomputable def SH2:List (FuncId×ASpec):=(135,Aj (Bz FP2 fun r=>va FP2 (re FP2 r)))::(89,Aj (Dm FP2 FP2 fun r s=>va FP2 (ad FP2 r s)))::(137,Aj (Dm FP2 FP2 fun r s=>va FP2 (su FP2 r s)))::(91,Aj (Bz FP2 fun r=>va FP2 (ng FP2 r)))::(216,Aj (Bz FP2 fun r=>va FP2 (cj r)))::(215,Aj (Dm FP2 FP fun r k=>va FP2 (sc r k)))::(90,Aj (Dm FP2 FP2 fun r s=>va FP2 (mu FP2 r s)))::(304,Aj (Bz FP2 fun r=>va FP2 (re FP2 r)))::(260,Aj (Dm FP2 FP2 fun r s=>va FP2 (ad FP2 r s)))::(261,Aj (Bz FP2 fun r=>va FP2 (ng FP2 r)))::(306,Aj (Bz FP2 fun r=>va FP2 (cj r)))::(307,Aj (Dm FP2 FP fun r k=>va FP2 (sc r k)))::(256,Aj (Dm FP2 FP2 fun r s=>va FP2 (mu FP2 r s)))::SH1
theorem AAj:AX Tryz.prog SH2:=⟨Ak Tryz.func135 (by kernel_rfl) (by kernel_rfl) (CC fun r=>AW HC AB Tryz.func135 (AO0 r) trivial rfl),Ak Tryz.func89 (by kernel_rfl) (by kernel_rfl) (EG fun r s=>AW HC AB Tryz.func89 (AO1 r s) trivial rfl),Ak Tryz.func137 (by kernel_rfl) (by kernel_rfl) (EG fun r s=>AW HC AB Tryz.func137 (AO2 r s) trivial rfl),Ak Tryz.func91 (by kernel_rfl) (by kernel_rfl) (CC fun r=>AW HC AB Tryz.func91 (AO3 r) trivial rfl),Ak Tryz.func216 (by kernel_rfl) (by kernel_rfl) (CC fun r=>AW HC AB Tryz.func216 (AO4 r) trivial rfl),Ak Tryz.func215 (by kernel_rfl) (by kernel_rfl) (EG fun r s=>AW HC AB Tryz.func215 (AO5 r s) trivial rfl),Ak Tryz.func90 (by kernel_rfl) (by kernel_rfl) (EG fun r s=>by rw [← AOv];exact AW APA AB Tryz.func90 (APB r s) trivial rfl),Ak Tryz.func304 (by kernel_rfl) (by kernel_rfl) (CC fun r=>AW HC AB Tryz.func304 (AO6 r) trivial rfl),Ak Tryz.func260 (by kernel_rfl) (by kernel_rfl) (EG fun r s=>AW HC AB Tryz.func260 (AO7 r s) trivial rfl),Ak Tryz.func261 (by kernel_rfl) (by kernel_rfl) (CC fun r=>AW HC AB Tryz.func261 (AO8 r) trivial rfl),Ak Tryz.func306 (by kernel_rfl) (by kernel_rfl) (CC fun r=>AW HC AB Tryz.func306 (AO9 r) trivial rfl),Ak Tryz.func307 (by kernel_rfl) (by kernel_rfl) (EG fun r s=>AW HC AB Tryz.func307 (AO_ r s) trivial rfl),Ak Tryz.func256 (by kernel_rfl) (by kernel_rfl) (EG fun r s=>by rw [← AOw];exact AW HC AB Tryz.func256 (AO' r s) trivial rfl),g6⟩
noncomputable abbrev oH2:Orc:=AH SH2 KH
theorem hU:OrcOk Tryz.prog oH2:=AK AAj BA
section
variable (r s:R FP2)
theorem APC:AR Tryz.prog oH2 Tryz.f138 [va FP2 r] [] 300=some ([],va FP2 (sc (cj r) (iv FP (ad FP (mu FP r.1 r.1) (mu FP r.2 r.2))))):=by kernel_rfl
theorem APD:AR Tryz.prog oH2 Tryz.f305 [va FP2 r,va FP2 s] [] 300=some ([],va FP2 (ad FP2 r (ng FP2 s))):=by kernel_rfl
theorem APE:AR Tryz.prog oH2 Tryz.f255 [va FP2 r] [] 300=some ([],va FP2 (sc (cj r) (iv FP (mu FP2 r (cj r)).1))):=by kernel_rfl
end
theorem APF (r s:R FP2):ad FP2 r (ng FP2 s)=su FP2 r s:=by simp only [ad,ng,su,mo_en,sub_eq]
noncomputable def SH3:List (FuncId×ASpec):=(138,Aj (Bz FP2 fun r=>va FP2 (iv FP2 r)))::(305,Aj (Dm FP2 FP2 fun r s=>va FP2 (su FP2 r s)))::(255,Aj (Bz FP2 fun r=>va FP2 (iv FP2 r)))::SH2
theorem AAk:AX Tryz.prog SH3:=⟨Ak Tryz.func138 (by kernel_rfl) (by kernel_rfl) (CC fun r=>by rw [← AOy];exact AW hU AB Tryz.func138 (APC r) trivial rfl),Ak Tryz.func305 (by kernel_rfl) (by kernel_rfl) (EG fun r s=>by rw [← APF];exact AW hU AB Tryz.func305 (APD r s) trivial rfl),Ak Tryz.func255 (by kernel_rfl) (by kernel_rfl) (CC fun r=>by rw [← AOz];exact AW hU AB Tryz.func255 (APE r) trivial rfl),AAj⟩
noncomputable abbrev oH3:Orc:=AH SH3 KH
theorem iB:OrcOk Tryz.prog oH3:=AK AAk BA
end Go.Proofs.YtjlcdlekmpjjnaaGreat
